/- TraceCounts: the walk, and what the counts are. -/
import Derived.Test.YtffcdglhobdlhaaDoorECount
namespace Go.Proofs.YtffcdglhobdlhaaDoor.PA
open Go.RowKit Go.Proofs.YtffcdglhobdlhaaDoorW.PrintWords Go.Proofs.YtffcdglhobdlhaaDoorW.PrintLast Go.Proofs.YtffcdglhobdlhaaDoorW.PrintMore
attribute [local go_sem] max2_int min2_int max_two min_two max_three min_three max_four min_four

theorem cntStep_get (c : List Int) (j : S42) (h : c.length = 5) (i : Nat) (hi : i < 5) : (cntStep c j).getD i 0 = c.getD i 0 + (if placeOf j = (i : Int) then 1 else 0) := by
  have hp := place_range j
  unfold cntStep
  by_cases e : placeOf j = (i : Int)
  · have e2 : (placeOf j).toNat = i := by omega
    rw [if_pos e, e2]
    simp [List.getD_eq_getElem?_getD, h, hi]
  · have e2 : (placeOf j).toNat ≠ i := by omega
    rw [if_neg e]
    simp [List.getD_eq_getElem?_getD, List.getElem?_set_ne e2]
theorem fold_add (b : List S42) : ∀ (c : List Int), c.length = 5 → ∀ i, i < 5 → (b.foldl cntStep c).getD i 0 = c.getD i 0 + (cnt b).getD i 0 := by
  induction b with
  | nil =>
    intro c _ i hi
    have : (cnt []).getD i 0 = 0 := by
      have : i = 0 ∨ i = 1 ∨ i = 2 ∨ i = 3 ∨ i = 4 := by omega
      rcases this with rfl | rfl | rfl | rfl | rfl <;> rfl
    rw [this]
    simp
  | cons j b ih =>
    intro c hc i hi
    have e1 := ih (cntStep c j) (by simp [cntStep, hc]) i hi
    have e2 : (cnt (j :: b)).getD i 0 = (cntStep [0, 0, 0, 0, 0] j).getD i 0 + (cnt b).getD i 0 := ih (cntStep [0, 0, 0, 0, 0] j) (by simp [cntStep]) i hi
    rw [List.foldl_cons, e1, e2, cntStep_get c j hc i hi, cntStep_get [0, 0, 0, 0, 0] j rfl i hi]
    have : ([0, 0, 0, 0, 0] : List Int).getD i 0 = 0 := by
      have : i = 0 ∨ i = 1 ∨ i = 2 ∨ i = 3 ∨ i = 4 := by omega
      rcases this with rfl | rfl | rfl | rfl | rfl <;> rfl
    rw [this]
    omega
theorem cnt_add (a b : List S42) (i : Nat) (hi : i < 5) : (cnt (a ++ b)).getD i 0 = (cnt a).getD i 0 + (cnt b).getD i 0 := by
  have : cnt (a ++ b) = b.foldl cntStep (cnt a) := by unfold cnt; rw [List.foldl_append]
  rw [this, fold_add b (cnt a) (cnt_len a) i hi]
def sum5 (c : List Int) : Int := c.getD 0 0 + c.getD 1 0 + c.getD 2 0 + c.getD 3 0 + c.getD 4 0
theorem fold_sum (b : List S42) : ∀ (c : List Int), c.length = 5 → sum5 (b.foldl cntStep c) = sum5 c + b.length := by
  induction b with
  | nil => intro c _; simp
  | cons j b ih =>
    intro c hc
    rw [List.foldl_cons, ih (cntStep c j) (by simp [cntStep, hc])]
    have hp := place_range j
    have : sum5 (cntStep c j) = sum5 c + 1 := by
      unfold sum5
      rw [cntStep_get c j hc 0 (by decide), cntStep_get c j hc 1 (by decide), cntStep_get c j hc 2 (by decide), cntStep_get c j hc 3 (by decide), cntStep_get c j hc 4 (by decide)]
      have : placeOf j = 0 ∨ placeOf j = 1 ∨ placeOf j = 2 ∨ placeOf j = 3 ∨ placeOf j = 4 := by omega
      rcases this with e | e | e | e | e <;> (rw [e]; simp; omega)
    rw [this, List.length_cons]
    omega
theorem cnt_sum (l : List S42) : (cnt l).getD 0 0 + (cnt l).getD 1 0 + (cnt l).getD 2 0 + (cnt l).getD 3 0 + (cnt l).getD 4 0 = l.length := by
  have := fold_sum l [0, 0, 0, 0, 0] rfl
  simpa [sum5, cnt] using this
theorem cnt_get (l : List S42) (i : Nat) (hi : i < 5) : 0 ≤ (cnt l).getD i 0 ∧ (cnt l).getD i 0 ≤ l.length := by
  have hl := cnt_len l
  rw [List.getD_eq_getElem?_getD, List.getElem?_eq_getElem (by omega)]
  exact cnt_range l _ (List.getElem_mem (by omega))
theorem count_f (l : List S42) (h : l.length ≤ 1000000) : trace_Count.f l = some ((cnt l).getD 0 0, (cnt l).getD 1 0, (cnt l).getD 2 0, (cnt l).getD 3 0, (cnt l).getD 4 0) := by
  unfold trace_Count.f
  rw [if_pos h]

theorem lt_of_some {w : World} {k : Nat} {o : Obj} (h : w.heap[k]? = some o) : k < w.heap.size := (Array.getElem?_eq_some_iff.1 h).1
set_option maxHeartbeats 8000000 in
set_option maxRecDepth 100000 in
theorem humpyardlaw21_TraceCounts.calls (A0 : Option Addr) (c0 : Nat) (l0 : List S42) (A1 : Option Addr) (c1 : Nat) (l1 : List S42) (w : World) (hr0 : Kd.C k42 w A0 l0.length l0) (hc0 : l0.length ≤ c0) (hr1 : Kd.C k42 w A1 l1.length l1) (hc1 : l1.length ≤ c1) :
    Calls Tryd.prog 6 #[.slice A0 l0.length c0, .slice A1 l1.length c1] w fun e w' => e = .returned (.bool true) ∧ Below w.heap.size w w' := by
  obtain ⟨ji, hji⟩ : ∃ ji : Int, (if 12 < (l0.length : Int) then 12 else (l0.length : Int)) = ji := ⟨_, rfl⟩
  obtain ⟨jk, hjk⟩ : ∃ jk : Int, (if 12 < (l1.length : Int) then 12 else (l1.length : Int)) = jk := ⟨_, rfl⟩
  have b1 : 0 ≤ ji ∧ ji ≤ l0.length ∧ ji ≤ 12 := by split at hji <;> omega
  have b2 : 0 ≤ jk ∧ jk ≤ l1.length ∧ jk ≤ 12 := by split at hjk <;> omega
  obtain ⟨i42, hi42, _, _, _⟩ := info_parts info42
  have cut1 := cut_to (P := Tryd.prog) 32 42 .i64 Tryd.underlying32 hi42 A0 l0.length c0 ji b1.1 b1.2.1 hc0
  have cut2 := cut_to (P := Tryd.prog) 32 42 .i64 Tryd.underlying32 hi42 A1 l1.length c1 jk b2.1 b2.2.1 hc1
  obtain ⟨a, ha⟩ : ∃ a, l0.take ji.toNat = a := ⟨_, rfl⟩
  obtain ⟨b, hb⟩ : ∃ b, l1.take jk.toNat = b := ⟨_, rfl⟩
  have la : a.length = ji.toNat := by rw [← ha, List.length_take]; omega
  have lb : b.length = jk.toNat := by rw [← hb, List.length_take]; omega
  have hA := Kd.C_take (m := ji.toNat) hr0 (by omega)
  have hB := Kd.C_take (m := jk.toNat) hr1 (by omega)
  rw [ha] at hA
  rw [hb] at hB
  have HA := Aside0.mk hA
  have HBq := Aside0.mk hB
  rw [← la] at cut1
  rw [← lb] at cut2
  have LA := Aside0.mk (show a.length ≤ 12 by omega)
  have LB := Aside0.mk (show b.length ≤ 12 by omega)
  have CA := Aside0.mk (show a.length ≤ c0 by omega)
  have CB := Aside0.mk (show b.length ≤ c1 by omega)
  have HR0 := Aside0.mk hr0
  clear hr0 hr1 hA hB ha hb la lb hi42 hc0 hc1
  have FA := count_f a (by have := LA.out; omega)
  have FB := count_f b (by have := LB.out; omega)
  have FZ := count_f (a ++ b) (by rw [List.length_append]; have := LA.out; have := LB.out; omega)
  have SA := cnt_sum a
  rw [cnt_add a b 0 (by decide), cnt_add a b 1 (by decide), cnt_add a b 2 (by decide), cnt_add a b 3 (by decide), cnt_add a b 4 (by decide)] at FZ
  have gx0 := cnt_get a 0 (by decide)
  have gy0 := cnt_get b 0 (by decide)
  have gx1 := cnt_get a 1 (by decide)
  have gy1 := cnt_get b 1 (by decide)
  have gx2 := cnt_get a 2 (by decide)
  have gy2 := cnt_get b 2 (by decide)
  have gx3 := cnt_get a 3 (by decide)
  have gy3 := cnt_get b 3 (by decide)
  have gx4 := cnt_get a 4 (by decide)
  have gy4 := cnt_get b 4 (by decide)
  generalize (cnt a).getD 0 0 = x0 at FA FZ SA gx0
  generalize (cnt b).getD 0 0 = y0 at FB FZ gy0
  generalize (cnt a).getD 1 0 = x1 at FA FZ SA gx1
  generalize (cnt b).getD 1 0 = y1 at FB FZ gy1
  generalize (cnt a).getD 2 0 = x2 at FA FZ SA gx2
  generalize (cnt b).getD 2 0 = y2 at FB FZ gy2
  generalize (cnt a).getD 3 0 = x3 at FA FZ SA gx3
  generalize (cnt b).getD 3 0 = y3 at FB FZ gy3
  generalize (cnt a).getD 4 0 = x4 at FA FZ SA gx4
  generalize (cnt b).getD 4 0 = y4 at FB FZ gy4
  have FA := Aside0.mk FA
  have FB := Aside0.mk FB
  obtain ⟨z, hz⟩ : ∃ z, a ++ b = z := ⟨_, rfl⟩
  rw [hz] at FZ
  have HZ := Aside0.mk hz
  clear hz
  have FZ := Aside0.mk FZ
  have SA := Aside0.mk SA
  have gx0 : 0 ≤ x0 ∧ x0 ≤ 12 := ⟨gx0.1, by have := gx0.2; have := LA.out; omega⟩
  have gx1 : 0 ≤ x1 ∧ x1 ≤ 12 := ⟨gx1.1, by have := gx1.2; have := LA.out; omega⟩
  have gx2 : 0 ≤ x2 ∧ x2 ≤ 12 := ⟨gx2.1, by have := gx2.2; have := LA.out; omega⟩
  have gx3 : 0 ≤ x3 ∧ x3 ≤ 12 := ⟨gx3.1, by have := gx3.2; have := LA.out; omega⟩
  have gx4 : 0 ≤ x4 ∧ x4 ≤ 12 := ⟨gx4.1, by have := gx4.2; have := LA.out; omega⟩
  have gy0 : 0 ≤ y0 ∧ y0 ≤ 12 := ⟨gy0.1, by have := gy0.2; have := LB.out; omega⟩
  have gy1 : 0 ≤ y1 ∧ y1 ≤ 12 := ⟨gy1.1, by have := gy1.2; have := LB.out; omega⟩
  have gy2 : 0 ≤ y2 ∧ y2 ≤ 12 := ⟨gy2.1, by have := gy2.2; have := LB.out; omega⟩
  have gy3 : 0 ≤ y3 ∧ y3 ≤ 12 := ⟨gy3.1, by have := gy3.2; have := LB.out; omega⟩
  have gy4 : 0 ≤ y4 ∧ y4 ≤ 12 := ⟨gy4.1, by have := gy4.2; have := LB.out; omega⟩
  go_enter Tryd.func6, Tryd.ntmps6
  go_wp2_with fail
  refine (humpyardlaw21_awake.calls 4 true _ (awake_true (by decide))).mono ?_
  rintro e W1 ⟨rfl, hw1⟩
  have H1 := Aside0.mk hw1
  clear hw1
  go_wp2_with fail
  refine (trace_Count.calls A0 c0 a _ _ _ _ _ W1 (Kd.C_below HA.out H1.out) CA.out FA.out).mono ?_
  rintro e W2 ⟨rfl, hw2⟩
  have H2 := Aside0.mk (H1.out.trans (hw2.mono H1.out.size))
  clear hw2
  go_wp2_with fail
  have hX : (W2.alloc (.cells #[.int .i64 x0, .int .i64 x1, .int .i64 x2, .int .i64 x3, .int .i64 x4] 39)).heap[W2.heap.size]? = some (.cells #[.int .i64 x0, .int .i64 x1, .int .i64 x2, .int .i64 x3, .int .i64 x4] 39) := heap_alloc_new W2 _
  have hY : Below W2.heap.size W2 (W2.alloc (.cells #[.int .i64 x0, .int .i64 x1, .int .i64 x2, .int .i64 x3, .int .i64 x4] 39)) := (Below.refl _ W2).alloc (Nat.le_refl _) _
  generalize W2.alloc (.cells #[.int .i64 x0, .int .i64 x1, .int .i64 x2, .int .i64 x3, .int .i64 x4] 39) = V2 at hX hY ⊢
  have HV2 := Aside0.mk (H2.out.trans (hY.mono H2.out.size))
  have Kx := Aside0.mk (And.intro (show w.heap.size ≤ W2.heap.size from H2.out.size) hX)
  have YV2 := Aside0.mk hY
  clear hX hY
  generalize W2.heap.size = bx at Kx YV2 ⊢
  refine (trace_Count.calls A1 c1 b _ _ _ _ _ V2 (Kd.C_below HBq.out HV2.out) CB.out FB.out).mono ?_
  rintro e W3 ⟨rfl, hw3⟩
  have H3 := Aside0.mk (HV2.out.trans (hw3.mono HV2.out.size))
  have Kx := Aside0.mk (And.intro Kx.out.1 ((hw3.block _ (lt_of_some Kx.out.2)).trans Kx.out.2))
  clear hw3 H1 H2 HV2 YV2
  go_wp2_with (first | ((with_reducible refine gate_builtin (b := .append) (xs := #[.const (.slice none 0 0), .tmp 27]) rfl ?_); at_builtin; have hX : (W3.alloc (.cells #[.int .i64 y0, .int .i64 y1, .int .i64 y2, .int .i64 y3, .int .i64 y4] 39)).heap[W3.heap.size]? = some (.cells #[.int .i64 y0, .int .i64 y1, .int .i64 y2, .int .i64 y3, .int .i64 y4] 39) := heap_alloc_new W3 _; have hY : Below W3.heap.size W3 (W3.alloc (.cells #[.int .i64 y0, .int .i64 y1, .int .i64 y2, .int .i64 y3, .int .i64 y4] 39)) := (Below.refl _ W3).alloc (Nat.le_refl _) _; generalize W3.alloc (.cells #[.int .i64 y0, .int .i64 y1, .int .i64 y2, .int .i64 y3, .int .i64 y4] 39) = V3 at hX hY ⊢; have HV3 := Aside0.mk (H3.out.trans (hY.mono H3.out.size)); have Ky := Aside0.mk (And.intro (show w.heap.size ≤ W3.heap.size from H3.out.size) hX); have Kx3 := Aside0.mk (And.intro Kx.out.1 ((hY.block _ (lt_of_some Kx.out.2)).trans Kx.out.2)); clear hX hY Kx H3; generalize W3.heap.size = bY at Ky ⊢; refine Kd.R_append_rows k42 (w0 := w) w.heap.size rfl (.const (.slice none 0 0)) (.tmp 27) 32 42 (.agg #[(.int .i64 0), (.int .i64 0), (.int .i64 0), (.int .i64 0)]) 32 rfl Tryd.underlying32 info42 rfl (by decide) (by omega) (.slice none 0 0) ([] : List S42) a _ _ _ (fun k => k ≠ bx ∧ k ≠ bY) (fun _ => False) rfl rfl ?aO ?aR (fun _ _ h => h) (fun _ h => h.elim) ?aF ?aB ?aS ?aL ?_; (case aO => exact Kd.R_nil _ _ _ _ _); (case aR => exact Kd.C_below HA.out HV3.out); (case aF => exact (fun k hk => by have h1 := lt_of_some Kx3.out.2; have h2 := lt_of_some Ky.out.2; omega)); (case aB => exact HV3.out); (case aS => exact HV3.out.size); (case aL => have := LA.out; simp only [List.length_nil]; omega); intro v4 V4 ho4 hb4 hg4 hat4; have O4 := Aside0.mk ho4; have H4 := Aside0.mk hb4; have Kx4 := Aside0.mk (And.intro Kx3.out.1 ((hg4.block _ (lt_of_some Kx3.out.2) (by simp [Value.ownBlock])).trans Kx3.out.2)); have Ky4 := Aside0.mk (And.intro Ky.out.1 ((hg4.block _ (lt_of_some Ky.out.2) (by simp [Value.ownBlock])).trans Ky.out.2)); clear ho4 hb4 hg4 hat4 HV3 Kx3 Ky) | ((with_reducible refine gate_builtin (b := .append) (xs := #[.tmp 28, .tmp 29]) rfl ?_); at_builtin; refine Kd.R_append_rows k42 (w0 := w) w.heap.size rfl (.tmp 28) (.tmp 29) 32 42 (.agg #[(.int .i64 0), (.int .i64 0), (.int .i64 0), (.int .i64 0)]) 32 rfl Tryd.underlying32 info42 rfl (by decide) (by omega) v4 ([] ++ a) b _ _ _ (fun k => k ≠ bx ∧ k ≠ bY) (fun _ => False) rfl rfl ?aO ?aR (fun _ _ h => h) (fun _ h => h.elim) ?aF ?aB ?aS ?aL ?_; (case aO => exact O4.out); (case aR => exact Kd.C_below HBq.out H4.out); (case aF => exact (fun k hk => by have h1 := lt_of_some Kx4.out.2; have h2 := lt_of_some Ky4.out.2; omega)); (case aB => exact H4.out); (case aS => exact H4.out.size); (case aL => have := LA.out; have := LB.out; simp only [List.nil_append]; omega); intro v5 V5 ho5 hb5 hg5 hat5; rw [List.nil_append, HZ.out] at ho5; have O5 := Aside0.mk ho5; have H5 := Aside0.mk hb5; have Kx5 := Aside0.mk (And.intro Kx4.out.1 ((hg5.block _ (lt_of_some Kx4.out.2) (fun e => (O4.out.1 _ e.symm).1 rfl)).trans Kx4.out.2)); have Ky5 := Aside0.mk (And.intro Ky4.out.1 ((hg5.block _ (lt_of_some Ky4.out.2) (fun e => (O4.out.1 _ e.symm).2 rfl)).trans Ky4.out.2)); clear ho5 hb5 hg5 hat5 H4 Kx4 Ky4 O4; obtain ⟨Ao, co, eo⟩ := Kd.R_slice O5.out; subst eo))
  with_reducible refine (trace_Count.calls Ao co z _ _ _ _ _ V5 (Kd.R_reads' O5.out).2.2 (Kd.R_reads' O5.out).2.1 FZ.out).mono ?_
  rintro e W6 ⟨rfl, hw6⟩
  have H6 := Aside0.mk (H5.out.trans (hw6.mono H5.out.size))
  have Kx6 := Aside0.mk (And.intro Kx5.out.1 ((hw6.block _ (lt_of_some Kx5.out.2)).trans Kx5.out.2))
  have Ky6 := Aside0.mk (And.intro Ky5.out.1 ((hw6.block _ (lt_of_some Ky5.out.2)).trans Ky5.out.2))
  clear hw6 H5 Kx5 Ky5 O5
  have hZb : (W6.alloc (.cells #[.int .i64 (x0 + y0), .int .i64 (x1 + y1), .int .i64 (x2 + y2), .int .i64 (x3 + y3), .int .i64 (x4 + y4)] 39)).heap[W6.heap.size]? = some (.cells #[.int .i64 (x0 + y0), .int .i64 (x1 + y1), .int .i64 (x2 + y2), .int .i64 (x3 + y3), .int .i64 (x4 + y4)] 39) := heap_alloc_new W6 _
  have hYb : Below W6.heap.size W6 (W6.alloc (.cells #[.int .i64 (x0 + y0), .int .i64 (x1 + y1), .int .i64 (x2 + y2), .int .i64 (x3 + y3), .int .i64 (x4 + y4)] 39)) := (Below.refl _ W6).alloc (Nat.le_refl _) _
  have H7 : Below w.heap.size w (W6.alloc (.cells #[.int .i64 (x0 + y0), .int .i64 (x1 + y1), .int .i64 (x2 + y2), .int .i64 (x3 + y3), .int .i64 (x4 + y4)] 39)) := H6.out.trans (hYb.mono H6.out.size)
  have Kx7 : (W6.alloc (.cells #[.int .i64 (x0 + y0), .int .i64 (x1 + y1), .int .i64 (x2 + y2), .int .i64 (x3 + y3), .int .i64 (x4 + y4)] 39)).heap[bx]? = some (.cells #[.int .i64 x0, .int .i64 x1, .int .i64 x2, .int .i64 x3, .int .i64 x4] 39) := (hYb.block _ (lt_of_some Kx6.out.2)).trans Kx6.out.2
  have Ky7 : (W6.alloc (.cells #[.int .i64 (x0 + y0), .int .i64 (x1 + y1), .int .i64 (x2 + y2), .int .i64 (x3 + y3), .int .i64 (x4 + y4)] 39)).heap[bY]? = some (.cells #[.int .i64 y0, .int .i64 y1, .int .i64 y2, .int .i64 y3, .int .i64 y4] 39) := (hYb.block _ (lt_of_some Ky6.out.2)).trans Ky6.out.2
  have H7 := Aside0.mk H7
  have Kx7 := Aside0.mk Kx7
  have Ky7 := Aside0.mk Ky7
  have Kz7 := Aside0.mk hZb
  clear hZb hYb H6 Kx6 Ky6
  go_wp2_with fail
  generalize W6.alloc (.cells #[.int .i64 (x0 + y0), .int .i64 (x1 + y1), .int .i64 (x2 + y2), .int .i64 (x3 + y3), .int .i64 (x4 + y4)] 39) = V7 at H7 Kx7 Ky7 Kz7 ⊢
  generalize W6.heap.size = bz at Kz7 ⊢
  go_loopg [11] (5 : Nat) (fun k v11 wr => ∃ i : Nat, i ≤ 5 ∧ k = 5 - i ∧ v11 = .int .i64 i ∧ Aside0 (Below w.heap.size w wr) ∧ Aside0 (wr.heap[bx]? = some (.cells #[.int .i64 x0, .int .i64 x1, .int .i64 x2, .int .i64 x3, .int .i64 x4] 39)) ∧ Aside0 (wr.heap[bY]? = some (.cells #[.int .i64 y0, .int .i64 y1, .int .i64 y2, .int .i64 y3, .int .i64 y4] 39)) ∧ Aside0 (wr.heap[bz]? = some (.cells #[.int .i64 (x0 + y0), .int .i64 (x1 + y1), .int .i64 (x2 + y2), .int .i64 (x3 + y3), .int .i64 (x4 + y4)] 39)))
  case atStart => exact ⟨0, by omega, rfl, rfl, H7, Kx7, Ky7, Kz7⟩
  case round =>
    clear H7 Kx7 Ky7 Kz7
    obtain ⟨i, hi, rfl, rfl, HB, KX, KY, KZ⟩ := hrel
    have hcase : i = 0 ∨ i = 1 ∨ i = 2 ∨ i = 3 ∨ i = 4 ∨ i = 5 := by omega
    have cx0 : wr.cell? ⟨bx, 0, none⟩ = some (.int .i64 (x0)) := by simp [World.cell?, KX.out]
    have cx1 : wr.cell? ⟨bx, 1, none⟩ = some (.int .i64 (x1)) := by simp [World.cell?, KX.out]
    have cx2 : wr.cell? ⟨bx, 2, none⟩ = some (.int .i64 (x2)) := by simp [World.cell?, KX.out]
    have cx3 : wr.cell? ⟨bx, 3, none⟩ = some (.int .i64 (x3)) := by simp [World.cell?, KX.out]
    have cx4 : wr.cell? ⟨bx, 4, none⟩ = some (.int .i64 (x4)) := by simp [World.cell?, KX.out]
    have cy0 : wr.cell? ⟨bY, 0, none⟩ = some (.int .i64 (y0)) := by simp [World.cell?, KY.out]
    have cy1 : wr.cell? ⟨bY, 1, none⟩ = some (.int .i64 (y1)) := by simp [World.cell?, KY.out]
    have cy2 : wr.cell? ⟨bY, 2, none⟩ = some (.int .i64 (y2)) := by simp [World.cell?, KY.out]
    have cy3 : wr.cell? ⟨bY, 3, none⟩ = some (.int .i64 (y3)) := by simp [World.cell?, KY.out]
    have cy4 : wr.cell? ⟨bY, 4, none⟩ = some (.int .i64 (y4)) := by simp [World.cell?, KY.out]
    have cz0 : wr.cell? ⟨bz, 0, none⟩ = some (.int .i64 (x0 + y0)) := by simp [World.cell?, KZ.out]
    have cz1 : wr.cell? ⟨bz, 1, none⟩ = some (.int .i64 (x1 + y1)) := by simp [World.cell?, KZ.out]
    have cz2 : wr.cell? ⟨bz, 2, none⟩ = some (.int .i64 (x2 + y2)) := by simp [World.cell?, KZ.out]
    have cz3 : wr.cell? ⟨bz, 3, none⟩ = some (.int .i64 (x3 + y3)) := by simp [World.cell?, KZ.out]
    have cz4 : wr.cell? ⟨bz, 4, none⟩ = some (.int .i64 (x4 + y4)) := by simp [World.cell?, KZ.out]
    rcases hcase with rfl | rfl | rfl | rfl | rfl | rfl
    · go_wp2_with fail
      refine wp_region_still_lit (by kernel_rfl) (by kernel_rfl) ?_
      obtain ⟨W8, hW8⟩ : ∃ W8, ({ wr with drawn := wr.drawn + 1 } : World) = W8 := ⟨_, rfl⟩
      rw [hW8]
      have ex : W8.cell? ⟨bx, 0, none⟩ = some (.int .i64 x0) := by rw [← hW8]; exact cx0
      have ey : W8.cell? ⟨bY, 0, none⟩ = some (.int .i64 y0) := by rw [← hW8]; exact cy0
      have ez : W8.cell? ⟨bz, 0, none⟩ = some (.int .i64 (x0 + y0)) := by rw [← hW8]; exact cz0
      have HB8 : Aside0 (Below w.heap.size w W8) := ⟨by rw [← hW8]; exact HB.out.drew⟩
      have KX8 : Aside0 (W8.heap[bx]? = some (.cells #[.int .i64 x0, .int .i64 x1, .int .i64 x2, .int .i64 x3, .int .i64 x4] 39)) := ⟨by rw [← hW8]; exact KX.out⟩
      have KY8 : Aside0 (W8.heap[bY]? = some (.cells #[.int .i64 y0, .int .i64 y1, .int .i64 y2, .int .i64 y3, .int .i64 y4] 39)) := ⟨by rw [← hW8]; exact KY.out⟩
      have KZ8 : Aside0 (W8.heap[bz]? = some (.cells #[.int .i64 (x0 + y0), .int .i64 (x1 + y1), .int .i64 (x2 + y2), .int .i64 (x3 + y3), .int .i64 (x4 + y4)] 39)) := ⟨by rw [← hW8]; exact KZ.out⟩
      have hwz : IntKind.i64.wrap (x0 + y0) = x0 + y0 := (i64_w _).trans (wrap_in (by unfold inI64; omega))
      clear hW8 HB KX KY KZ
      repeat still_step
      refine wpStill_nil ?_
      go_wp2_with fail
      go_roundg (4 : Nat)
      case measure => omega
      case rel => exact ⟨1, by omega, by omega, rfl, HB8, KX8, KY8, KZ8⟩
    · go_wp2_with fail
      refine wp_region_still_lit (by kernel_rfl) (by kernel_rfl) ?_
      obtain ⟨W8, hW8⟩ : ∃ W8, ({ wr with drawn := wr.drawn + 1 } : World) = W8 := ⟨_, rfl⟩
      rw [hW8]
      have ex : W8.cell? ⟨bx, 1, none⟩ = some (.int .i64 x1) := by rw [← hW8]; exact cx1
      have ey : W8.cell? ⟨bY, 1, none⟩ = some (.int .i64 y1) := by rw [← hW8]; exact cy1
      have ez : W8.cell? ⟨bz, 1, none⟩ = some (.int .i64 (x1 + y1)) := by rw [← hW8]; exact cz1
      have HB8 : Aside0 (Below w.heap.size w W8) := ⟨by rw [← hW8]; exact HB.out.drew⟩
      have KX8 : Aside0 (W8.heap[bx]? = some (.cells #[.int .i64 x0, .int .i64 x1, .int .i64 x2, .int .i64 x3, .int .i64 x4] 39)) := ⟨by rw [← hW8]; exact KX.out⟩
      have KY8 : Aside0 (W8.heap[bY]? = some (.cells #[.int .i64 y0, .int .i64 y1, .int .i64 y2, .int .i64 y3, .int .i64 y4] 39)) := ⟨by rw [← hW8]; exact KY.out⟩
      have KZ8 : Aside0 (W8.heap[bz]? = some (.cells #[.int .i64 (x0 + y0), .int .i64 (x1 + y1), .int .i64 (x2 + y2), .int .i64 (x3 + y3), .int .i64 (x4 + y4)] 39)) := ⟨by rw [← hW8]; exact KZ.out⟩
      have hwz : IntKind.i64.wrap (x1 + y1) = x1 + y1 := (i64_w _).trans (wrap_in (by unfold inI64; omega))
      clear hW8 HB KX KY KZ
      repeat still_step
      refine wpStill_nil ?_
      go_wp2_with fail
      go_roundg (3 : Nat)
      case measure => omega
      case rel => exact ⟨2, by omega, by omega, rfl, HB8, KX8, KY8, KZ8⟩
    · go_wp2_with fail
      refine wp_region_still_lit (by kernel_rfl) (by kernel_rfl) ?_
      obtain ⟨W8, hW8⟩ : ∃ W8, ({ wr with drawn := wr.drawn + 1 } : World) = W8 := ⟨_, rfl⟩
      rw [hW8]
      have ex : W8.cell? ⟨bx, 2, none⟩ = some (.int .i64 x2) := by rw [← hW8]; exact cx2
      have ey : W8.cell? ⟨bY, 2, none⟩ = some (.int .i64 y2) := by rw [← hW8]; exact cy2
      have ez : W8.cell? ⟨bz, 2, none⟩ = some (.int .i64 (x2 + y2)) := by rw [← hW8]; exact cz2
      have HB8 : Aside0 (Below w.heap.size w W8) := ⟨by rw [← hW8]; exact HB.out.drew⟩
      have KX8 : Aside0 (W8.heap[bx]? = some (.cells #[.int .i64 x0, .int .i64 x1, .int .i64 x2, .int .i64 x3, .int .i64 x4] 39)) := ⟨by rw [← hW8]; exact KX.out⟩
      have KY8 : Aside0 (W8.heap[bY]? = some (.cells #[.int .i64 y0, .int .i64 y1, .int .i64 y2, .int .i64 y3, .int .i64 y4] 39)) := ⟨by rw [← hW8]; exact KY.out⟩
      have KZ8 : Aside0 (W8.heap[bz]? = some (.cells #[.int .i64 (x0 + y0), .int .i64 (x1 + y1), .int .i64 (x2 + y2), .int .i64 (x3 + y3), .int .i64 (x4 + y4)] 39)) := ⟨by rw [← hW8]; exact KZ.out⟩
      have hwz : IntKind.i64.wrap (x2 + y2) = x2 + y2 := (i64_w _).trans (wrap_in (by unfold inI64; omega))
      clear hW8 HB KX KY KZ
      repeat still_step
      refine wpStill_nil ?_
      go_wp2_with fail
      go_roundg (2 : Nat)
      case measure => omega
      case rel => exact ⟨3, by omega, by omega, rfl, HB8, KX8, KY8, KZ8⟩
    · go_wp2_with fail
      refine wp_region_still_lit (by kernel_rfl) (by kernel_rfl) ?_
      obtain ⟨W8, hW8⟩ : ∃ W8, ({ wr with drawn := wr.drawn + 1 } : World) = W8 := ⟨_, rfl⟩
      rw [hW8]
      have ex : W8.cell? ⟨bx, 3, none⟩ = some (.int .i64 x3) := by rw [← hW8]; exact cx3
      have ey : W8.cell? ⟨bY, 3, none⟩ = some (.int .i64 y3) := by rw [← hW8]; exact cy3
      have ez : W8.cell? ⟨bz, 3, none⟩ = some (.int .i64 (x3 + y3)) := by rw [← hW8]; exact cz3
      have HB8 : Aside0 (Below w.heap.size w W8) := ⟨by rw [← hW8]; exact HB.out.drew⟩
      have KX8 : Aside0 (W8.heap[bx]? = some (.cells #[.int .i64 x0, .int .i64 x1, .int .i64 x2, .int .i64 x3, .int .i64 x4] 39)) := ⟨by rw [← hW8]; exact KX.out⟩
      have KY8 : Aside0 (W8.heap[bY]? = some (.cells #[.int .i64 y0, .int .i64 y1, .int .i64 y2, .int .i64 y3, .int .i64 y4] 39)) := ⟨by rw [← hW8]; exact KY.out⟩
      have KZ8 : Aside0 (W8.heap[bz]? = some (.cells #[.int .i64 (x0 + y0), .int .i64 (x1 + y1), .int .i64 (x2 + y2), .int .i64 (x3 + y3), .int .i64 (x4 + y4)] 39)) := ⟨by rw [← hW8]; exact KZ.out⟩
      have hwz : IntKind.i64.wrap (x3 + y3) = x3 + y3 := (i64_w _).trans (wrap_in (by unfold inI64; omega))
      clear hW8 HB KX KY KZ
      repeat still_step
      refine wpStill_nil ?_
      go_wp2_with fail
      go_roundg (1 : Nat)
      case measure => omega
      case rel => exact ⟨4, by omega, by omega, rfl, HB8, KX8, KY8, KZ8⟩
    · go_wp2_with fail
      refine wp_region_still_lit (by kernel_rfl) (by kernel_rfl) ?_
      obtain ⟨W8, hW8⟩ : ∃ W8, ({ wr with drawn := wr.drawn + 1 } : World) = W8 := ⟨_, rfl⟩
      rw [hW8]
      have ex : W8.cell? ⟨bx, 4, none⟩ = some (.int .i64 x4) := by rw [← hW8]; exact cx4
      have ey : W8.cell? ⟨bY, 4, none⟩ = some (.int .i64 y4) := by rw [← hW8]; exact cy4
      have ez : W8.cell? ⟨bz, 4, none⟩ = some (.int .i64 (x4 + y4)) := by rw [← hW8]; exact cz4
      have HB8 : Aside0 (Below w.heap.size w W8) := ⟨by rw [← hW8]; exact HB.out.drew⟩
      have KX8 : Aside0 (W8.heap[bx]? = some (.cells #[.int .i64 x0, .int .i64 x1, .int .i64 x2, .int .i64 x3, .int .i64 x4] 39)) := ⟨by rw [← hW8]; exact KX.out⟩
      have KY8 : Aside0 (W8.heap[bY]? = some (.cells #[.int .i64 y0, .int .i64 y1, .int .i64 y2, .int .i64 y3, .int .i64 y4] 39)) := ⟨by rw [← hW8]; exact KY.out⟩
      have KZ8 : Aside0 (W8.heap[bz]? = some (.cells #[.int .i64 (x0 + y0), .int .i64 (x1 + y1), .int .i64 (x2 + y2), .int .i64 (x3 + y3), .int .i64 (x4 + y4)] 39)) := ⟨by rw [← hW8]; exact KZ.out⟩
      have hwz : IntKind.i64.wrap (x4 + y4) = x4 + y4 := (i64_w _).trans (wrap_in (by unfold inI64; omega))
      clear hW8 HB KX KY KZ
      repeat still_step
      refine wpStill_nil ?_
      go_wp2_with fail
      go_roundg (0 : Nat)
      case measure => omega
      case rel => exact ⟨5, by omega, by omega, rfl, HB8, KX8, KY8, KZ8⟩
    · go_wp2_with fail
      go_ret
      exact ⟨rfl, HB.out⟩
#print axioms humpyardlaw21_TraceCounts.calls
end Go.Proofs.YtffcdglhobdlhaaDoor.PA
