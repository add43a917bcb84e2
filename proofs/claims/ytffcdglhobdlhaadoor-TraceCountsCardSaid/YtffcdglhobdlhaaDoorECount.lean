/- trace.Count: how many jobs there are of each state. -/
import Derived.Test.YtffcdglhobdlhaaDoorPureA
import Derived.Test.YtffcdglhobdlhaaDoorEReport
namespace Go.Proofs.YtffcdglhobdlhaaDoor.PA
open Go.RowKit Go.Proofs.YtffcdglhobdlhaaDoorW.PrintWords Go.Proofs.YtffcdglhobdlhaaDoorW.PrintLast Go.Proofs.YtffcdglhobdlhaaDoorW.PrintMore

/-- The place at which a job is counted, and the counts. -/
def placeOf (j : S42) : Int := if j.f2 < 0 ∨ 5 ≤ j.f2 then 0 else j.f2
def cntStep (c : List Int) (j : S42) : List Int := c.set (placeOf j).toNat (c.getD (placeOf j).toNat 0 + 1)
def cnt (l : List S42) : List Int := l.foldl cntStep [0, 0, 0, 0, 0]
theorem place_range (j : S42) : 0 ≤ placeOf j ∧ placeOf j < 5 := by unfold placeOf; split <;> omega
theorem cnt_snoc (l : List S42) (i : Nat) (h : i < l.length) : cnt (l.take (i + 1)) = cntStep (cnt (l.take i)) l[i] := by
  unfold cnt
  rw [List.take_succ_eq_append_getElem h, List.foldl_append]
  rfl
theorem fold_len (l : List S42) : ∀ c : List Int, (l.foldl cntStep c).length = c.length := by
  induction l with
  | nil => intro c; rfl
  | cons j l ih => intro c; rw [List.foldl_cons, ih]; simp [cntStep]
theorem cnt_len (l : List S42) : (cnt l).length = 5 := fold_len l _
theorem fold_range (l : List S42) : ∀ (c : List Int) (n : Nat), (∀ x ∈ c, 0 ≤ x ∧ x ≤ (n : Int)) → ∀ x ∈ l.foldl cntStep c, 0 ≤ x ∧ x ≤ ((n + l.length : Nat) : Int) := by
  induction l with
  | nil => intro c n h; exact h
  | cons j l ih =>
    intro c n h x hx
    rw [List.foldl_cons] at hx
    have := ih (cntStep c j) (n + 1) (fun y hy => by
      rcases List.mem_or_eq_of_mem_set hy with hy | rfl
      · have := h y hy; omega
      · rw [List.getD_eq_getElem?_getD]
        cases hq : c[(placeOf j).toNat]? with
        | none => simp; omega
        | some q => have := h q (List.mem_of_getElem? hq); simp; omega) x hx
    rw [List.length_cons]
    omega
theorem cnt_range (l : List S42) (x : Int) (h : x ∈ cnt l) : 0 ≤ x ∧ x ≤ (l.length : Int) := by
  have := fold_range l [0, 0, 0, 0, 0] 0 (by simp) x h
  simpa using this
def cntObj (c : List Int) : Obj := .cells (c.map (Value.int .i64)).toArray 39
def trace_Count.f (l0 : List (S42)) : Option (Int × Int × Int × Int × Int) := if l0.length ≤ 1000000 then some ((cnt l0).getD 0 0, (cnt l0).getD 1 0, (cnt l0).getD 2 0, (cnt l0).getD 3 0, (cnt l0).getD 4 0) else none
theorem count_after {w wr : World} {c : List Int} {l1 : List S42} {j : S42} {p v : Int} (hb : wr.heap[w.heap.size]? = some (cntObj c)) (_h : Below w.heap.size w wr) (hlt : w.heap.size < wr.heap.size) (hs : cnt l1 = cntStep c j) (hp : placeOf j = p) (hv : c.getD p.toNat 0 = v) (hq : p.toNat < c.length) (o : Obj) :
    ((wr.setCell ⟨w.heap.size, p.toNat, none⟩ (.int .i64 (v + 1))).alloc o).heap[w.heap.size]? = some (cntObj (cnt l1)) := by
  rw [((Below.refl (wr.setCell ⟨w.heap.size, p.toNat, none⟩ (.int .i64 (v + 1))).heap.size _).alloc (Nat.le_refl _) o).block _ (by simpa [World.setCell] using hlt), hs]
  unfold cntStep
  rw [hp, hv]
  unfold cntObj at hb ⊢
  simp [World.setCell, Array.getElem?_modify, hb, List.map_set]
theorem count_below {w wr : World} (h : Below w.heap.size w wr) (hlt : w.heap.size < wr.heap.size) (q : Nat) (v : Value) (o : Obj) : Below w.heap.size w ((wr.setCell ⟨w.heap.size, q, none⟩ v).alloc o) :=
  (h.setCell (p := ⟨w.heap.size, q, none⟩) (Nat.le_refl _) v).alloc (by simp [World.setCell]; omega) o
set_option maxHeartbeats 4000000 in
set_option maxRecDepth 100000 in
theorem trace_Count.calls (A0 : Option Addr) (c0 : Nat) (l0 : List (S42)) (r1 : Int) (r2 : Int) (r3 : Int) (r4 : Int) (r5 : Int) (w : World) (hr0 : Kd.C k42 w A0 l0.length l0) (hc0 : l0.length ≤ c0) (h : trace_Count.f l0 = some (r1, r2, r3, r4, r5)) :
    Calls Tryd.prog 14 #[.slice A0 l0.length c0] w fun e w' => e = .returned (.agg #[.int .i64 r1, .int .i64 r2, .int .i64 r3, .int .i64 r4, .int .i64 r5]) ∧ Below w.heap.size w w' := by
  unfold trace_Count.f at h
  by_cases hf : l0.length ≤ 1000000
  case neg => rw [if_neg hf] at h; cases h
  rw [if_pos hf] at h
  have HRES := Aside0.mk (Option.some.inj h)
  clear h
  have HR0 := Aside0.mk hr0
  clear hr0 hc0
  have HB0 := Aside0.mk ((Below.refl w.heap.size w).alloc (Nat.le_refl _) (cntObj [0, 0, 0, 0, 0]))
  have hz0 : (w.alloc (cntObj [0, 0, 0, 0, 0])).heap[w.heap.size]? = some (cntObj (cnt (l0.take 0))) := heap_alloc_new w _
  go_enter Tryd.func14, Tryd.ntmps14
  go_wp2_with fail
  go_loopg [7] l0.length (fun k v7 wr => ∃ i : Nat, i ≤ l0.length ∧ k = l0.length - i ∧ v7 = .int .i64 i ∧ wr.heap[w.heap.size]? = some (cntObj (cnt (l0.take i))) ∧ Aside0 (Below w.heap.size w wr))
  case atStart => exact ⟨0, Nat.zero_le _, rfl, rfl, hz0, HB0⟩
  case round =>
    clear hz0 HB0
    obtain ⟨i, hi, rfl, rfl, hbz, HB⟩ := hrel
    have hwb : w.heap.size < wr.heap.size := (Array.getElem?_eq_some_iff.1 hbz).1
    by_cases hlt : i < l0.length
    · obtain ⟨ad, e, x0, x1, x2, x3⟩ := job_at (Kd.C_below HR0.out HB.out) i hlt
      cases e
      have hsn := cnt_snoc l0 i hlt
      have hcl := cnt_len (l0.take i)
      have hcr := cnt_range (l0.take i)
      obtain ⟨j, hje⟩ : ∃ j, l0[i] = j := ⟨_, rfl⟩
      rw [hje] at x0 x1 x2 x3 hsn
      generalize hcq : cnt (l0.take i) = c at hsn hcl hcr hbz
      have HSN := Aside0.mk hsn
      have hpr := place_range j
      obtain ⟨p, hp⟩ : ∃ p, placeOf j = p := ⟨_, rfl⟩
      rw [hp] at hpr
      have hv : 0 ≤ c.getD p.toNat 0 ∧ c.getD p.toNat 0 ≤ 1000000 := by
        rw [List.getD_eq_getElem?_getD, List.getElem?_eq_getElem (by omega)]
        have := hcr _ (List.getElem_mem (show p.toNat < c.length by omega))
        have h2 : (l0.take i).length ≤ 1000000 := by rw [List.length_take]; omega
        simp only [Option.getD_some]
        omega
      have hwv : IntKind.i64.wrap (c.getD p.toNat 0 + 1) = c.getD p.toNat 0 + 1 := (i64_w _).trans (wrap_in (by unfold inI64; omega))
      have HCL := Aside0.mk hcl
      have HP := Aside0.mk hp
      clear hje hsn hcq hcr hcl
      have kb : ∀ o : Obj, (wr.alloc o).cell? ⟨w.heap.size, p.toNat, none⟩ = some (.int .i64 (c.getD p.toNat 0)) := fun o => by
        have h0 : wr.cell? ⟨w.heap.size, p.toNat, none⟩ = some (.int .i64 (c.getD p.toNat 0)) := by
          have : p.toNat < c.length := by have := HCL.out; omega
          simp [World.cell?, hbz, cntObj, List.getD_eq_getElem?_getD, this]
        exact ((Below.refl _ wr).alloc (Nat.le_refl _) o).cell (p := ⟨w.heap.size, p.toNat, none⟩) hwb |>.trans h0
      have fb : ∀ o : Obj, (wr.alloc o).frozen? ⟨w.heap.size, p.toNat, none⟩ = false := fun o => by
        have h0 : (wr.alloc o).heap[w.heap.size]? = some (cntObj c) := (((Below.refl wr.heap.size wr).alloc (Nat.le_refl _) o).block _ hwb).trans hbz
        simp [World.frozen?, h0, cntObj]
      have hne : w.heap.size ≠ wr.heap.size := Nat.ne_of_lt hwb
      have hne' : wr.heap.size ≠ w.heap.size := Ne.symm hne
      generalize hcv : c.getD p.toNat 0 = v at kb hv hwv
      have BZ := Aside0.mk hbz
      have HCV := Aside0.mk hcv
      have hpe := HP.out
      unfold placeOf at hpe
      clear hbz hcv
      by_cases hc : j.f2 < 0 ∨ 5 ≤ j.f2
      · rw [if_pos hc] at hpe
        subst hpe
        simp only [Int.toNat_zero] at kb fb
        go_wp2_with fail
        all_goals (
          go_roundg (l0.length - (i + 1))
          case measure => omega
          case rel => exact ⟨i + 1, by omega, rfl, by go_num, count_after BZ.out HB.out hwb HSN.out HP.out HCV.out (by have := HCL.out; omega) _, ⟨count_below HB.out hwb _ _ _⟩⟩)
      · rw [if_neg hc] at hpe
        have hpe2 : j.f2 = p := hpe
        rw [hpe2] at x2
        have HPE := Aside0.mk hpe
        clear hpe hpe2
        go_wp2_with fail
        all_goals (
          go_roundg (l0.length - (i + 1))
          case measure => omega
          case rel => exact ⟨i + 1, by omega, rfl, by go_num, count_after BZ.out HB.out hwb HSN.out HP.out HCV.out (by have := HCL.out; omega) _, ⟨count_below HB.out hwb _ _ _⟩⟩)
    · obtain rfl : i = l0.length := by omega
      have hr := HRES.out
      rw [List.take_of_length_le (Nat.le_refl _)] at hbz
      have hcl := cnt_len l0
      generalize cnt l0 = c at hr hbz hcl
      match c, hcl with
      | [q0, q1, q2, q3, q4], _ =>
        cases hr
        clear HRES
        go_wp2_with fail
        refine bodyPost_ret (v := .agg #[.int .i64 q0, .int .i64 q1, .int .i64 q2, .int .i64 q3, .int .i64 q4]) ?_ rfl ⟨rfl, HB.out⟩
        exact results_cell_row (P := Tryd.prog) (fn := Tryd.f14) (p := 2) (ty := 39) (by kernel_rfl) _ wr w.heap.size 39 _ (0, 0) _ rfl hbz Tryd.underlying39 rfl (by kernel_rfl)
end Go.Proofs.YtffcdglhobdlhaaDoor.PA
