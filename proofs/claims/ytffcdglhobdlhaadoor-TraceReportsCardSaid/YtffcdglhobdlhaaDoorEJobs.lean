/- humpyardlaw21.Jobs: the jobs that may be, of raw ones. -/
import Derived.Test.YtffcdglhobdlhaaDoorPureA
import Derived.Test.YtffcdglhobdlhaaDoorShelf
import Derived.Test.YtffcdglhobdlhaaDoorEReport
import Derived.Deep.RegionHeld
namespace Go.Proofs.YtffcdglhobdlhaaDoor.PA
open Go.RowKit Go.Proofs.YtffcdglhobdlhaaDoorW.PrintWords Go.Proofs.YtffcdglhobdlhaaDoorW.PrintLast Go.Proofs.YtffcdglhobdlhaaDoorW.PrintMore

set_option maxRecDepth 100000 in
theorem pick_calls (c n : Int) (h : inI64 c) (h0 : 0 < n) (h1 : n ≤ 1000000) (w : World) : Calls Tryd.prog 10 #[.int .i64 c, .int .i64 n] w fun e w' => e = .returned (.int .i64 (pk c n)) ∧ w' = w := by
  obtain ⟨h2, h3⟩ := h
  by_cases hc : c < 0
  · have hp : pk c n = Int.tmod (-(c + 1)) n := by unfold pk; rw [if_pos hc]
    rw [hp]
    clear hp
    go_enter Tryd.func10, Tryd.ntmps10
    go_wp2
    go_ret
    refine ⟨?_, rfl⟩
    rw [show (-(c + 1)).tmod n = -(c + 1).tmod n from Int.neg_tmod _ _]
    rfl
  · have hp : pk c n = Int.tmod c n := by unfold pk; rw [if_neg hc]
    rw [hp]
    clear hp
    go_enter Tryd.func10, Tryd.ntmps10
    go_wp2
    go_ret
    refine ⟨?_, rfl⟩
    rw [Int.tmod_eq_emod_of_nonneg (by omega)]
    rfl

/-- What becomes of a raw job, and who is busy behind it. -/
def jobStep (i : Nat) (j : S42) (busy : List Bool) : S42 × List Bool :=
  let st := 1 + pk j.f2 4
  let v := if st = 2 ∨ st = 3 then pk j.f3 3 else -1
  if st = 2 then (if busy.getD v.toNat false = true then (⟨(i : Int) + 1, pk j.f1 5, 3, v⟩, busy) else (⟨(i : Int) + 1, pk j.f1 5, 2, v⟩, busy.set v.toNat true)) else (⟨(i : Int) + 1, pk j.f1 5, st, v⟩, busy)
def jobsOf : List S42 → Nat → List Bool → List S42
  | [], _, _ => []
  | j :: r, i, busy => (jobStep i j busy).1 :: jobsOf r (i + 1) (jobStep i j busy).2
def jobIn (j : S42) : Prop := inI64 j.f1 ∧ inI64 j.f2 ∧ inI64 j.f3
instance (j : S42) : Decidable (jobIn j) := by unfold jobIn; exact inferInstance
def humpyardlaw21_Jobs.f (l0 : List (S42)) : Option ((List (S42))) := if (∀ j ∈ l0.take 12, jobIn j) ∧ l0.length ≤ 9223372036854775807 then some (jobsOf (l0.take 12) 0 [false, false, false]) else none
theorem jobsOf_drop (l : List S42) (i : Nat) (h : i < l.length) (busy : List Bool) : jobsOf (l.drop i) i busy = (jobStep i l[i] busy).1 :: jobsOf (l.drop (i + 1)) (i + 1) (jobStep i l[i] busy).2 := by
  rw [List.drop_eq_getElem_cons h]
  rfl
theorem cell_of_block {w : World} {b : Nat} {cs : Array Value} {t : TypeId} {fz : Nat × Nat} (h : w.heap[b]? = some (.cells cs t fz)) (k : Nat) {v : Value} (hk : cs[k]? = some v) : w.cell? ⟨b, k, none⟩ = some v := by
  simp [World.cell?, h, hk]
theorem heap_setCell_same {w : World} {b : Nat} {cs : Array Value} {t : TypeId} {fz : Nat × Nat} (h : w.heap[b]? = some (.cells cs t fz)) (k : Nat) (v : Value) : (w.setCell ⟨b, k, none⟩ v).heap[b]? = some (.cells (cs.setIfInBounds k v) t fz) := by
  simp [World.setCell, Array.getElem?_modify, h]
theorem lt_of_heap {w : World} {k : Nat} {o : Obj} (h : w.heap[k]? = some o) : k < w.heap.size := (Array.getElem?_eq_some_iff.1 h).1
theorem busy_kept {W w1 : World} {v : Value} {xs : List S42} {base B : Nat} {b : Obj} (hR : Kd.R k42 42 W base (fun k => k ≠ B) v xs) (hg : W.grownBy w1 v.ownBlock) (hb : W.heap[B]? = some b) : w1.heap[B]? = some b :=
  (hg.block B (lt_of_heap hb) (fun e => hR.1 B e.symm rfl)).trans hb
def busyObj (busy : List Bool) : Obj := .cells (busy.map Value.bool).toArray 48
theorem step2T (i : Nat) (j : S42) (busy : List Bool) {q1 q3 : Int} (h1 : pk j.f1 5 = q1) (h2 : pk j.f2 4 = 1) (h3 : pk j.f3 3 = q3) (hb : busy.getD q3.toNat false = true) : jobStep i j busy = (⟨(i : Int) + 1, q1, 3, q3⟩, busy) := by
  unfold jobStep
  simp only [h1, h2, h3, Int.reduceAdd, true_or, if_true, hb]
theorem step2F (i : Nat) (j : S42) (busy : List Bool) {q1 q3 : Int} (h1 : pk j.f1 5 = q1) (h2 : pk j.f2 4 = 1) (h3 : pk j.f3 3 = q3) (hb : busy.getD q3.toNat false = false) : jobStep i j busy = (⟨(i : Int) + 1, q1, 2, q3⟩, busy.set q3.toNat true) := by
  unfold jobStep
  simp only [h1, h2, h3, Int.reduceAdd, true_or, if_true, hb]
  rfl
theorem step3 (i : Nat) (j : S42) (busy : List Bool) {q1 q3 : Int} (h1 : pk j.f1 5 = q1) (h2 : pk j.f2 4 = 2) (h3 : pk j.f3 3 = q3) : jobStep i j busy = (⟨(i : Int) + 1, q1, 3, q3⟩, busy) := by
  unfold jobStep
  simp only [h1, h2, h3, Int.reduceAdd, or_true, if_true]
  rfl
/-- An append of one element, where the walk has written the heap's size out anew. -/
theorem append_at {P : Program} {ops : Array Oper} {o : Oper} {a : Act} {Q : Exit → Act → World → Prop} {rest : List Oper} {α : Type} (d : Kd α) {w0 W : World} {e base H : Nat} (hgd : o.guard = none) (s x : Operand) (t : TypeId) (z : Value) (bytes : Nat)
    (ho : o.op = .call { callee := .builtin .append, args := #[s, x], argTypes := #[t, t] })
    (ht : P.underlying t = some (.slice e)) (hinfo : (P.info? e).map (fun i => (i.zero, i.size, i.bytes)) = some (some z, d.sz, bytes)) (hz : z.cells.size = d.sz) (hs0 : 0 < d.sz) (hb0 : 0 < bytes)
    (v : Value) (xs : List α) (p : α) (cs : List Value) (ok : Nat → Prop) (hH : W.heap.size = H) (hs : a.eval s = v) (hx : a.eval x = .slice (some ⟨H, 0, none⟩) 1 1) (hp : d.M W base (fun _ => False) p cs) (hfresh : ∀ k, H ≤ k → ok k)
    (HO : d.R e W base ok v xs) (HB : Below base w0 W) (hbase : base ≤ H) (hl : (xs.length + 1) * bytes ≤ 140737488355328)
    (h : ∀ v1 w1, d.R e w1 base ok v1 (xs ++ [p]) → Below base w0 w1 → W.grownBy w1 v.ownBlock → (v1.ownBlock = v.ownBlock ∨ ∃ b, v1.ownBlock = some b ∧ H ≤ b) → wpList P ops Q rest (a.put o.dst v1) w1) :
    wpList P ops Q (o :: rest) a (W.alloc (.cells cs.toArray e)) := by
  subst hH
  exact Kd.R_append d base hgd s x t e z bytes ho ht hinfo hz hs0 hb0 v xs p cs ok (fun _ => False) hs hx hp (fun _ hk => hk.elim) hfresh HO HB hbase hl h
theorem busy_set {W : World} {B B2 q : Nat} {u : Value} {busy : List Bool} (h : W.heap[B]? = some (busyObj busy)) (hB : B ≤ B2) (hne : B ≠ B2) (hq : q < busy.length) :
    ((W.setCell ⟨B2, 3, none⟩ u).setCell ⟨B, q, none⟩ (.bool true)).heap[B]? = some (busyObj (busy.set q true)) := by
  rw [heap_setCell_same (by rw [Below.heap_setCell _ _ _ _ hne]; exact h)]
  simp [busyObj, List.map_set]
set_option maxHeartbeats 16000000 in
set_option maxRecDepth 100000 in
theorem humpyardlaw21_Jobs.calls (A0 : Option Addr) (c0 : Nat) (l0 : List (S42)) (r : List (S42)) (w : World) (hr0 : Kd.C k42 w A0 l0.length l0) (hc0 : l0.length ≤ c0) (h : humpyardlaw21_Jobs.f l0 = some r) :
    Calls Tryd.prog 12 #[.slice A0 l0.length c0] w fun e w' => ∃ v0_ : Value, e = .returned (v0_) ∧ Kd.R k42 42 w' w.heap.size (fun _ => True) v0_ r ∧ Below w.heap.size w w' := by
  unfold humpyardlaw21_Jobs.f at h
  by_cases hf : (∀ j ∈ l0.take 12, jobIn j) ∧ l0.length ≤ 9223372036854775807
  case neg => rw [if_neg hf] at h; cases h
  rw [if_pos hf] at h
  have hres := Option.some.inj h
  clear h
  obtain ⟨hin, hmax⟩ := hf
  have HR0 := Aside0.mk hr0
  have HIN := Aside0.mk hin
  have HRES := Aside0.mk hres
  clear hr0 hc0 hin hres
  have HB0 := Aside0.mk ((Below.refl w.heap.size w).alloc (Nat.le_refl _) (busyObj [false, false, false]))
  go_enter Tryd.func12, Tryd.ntmps12
  go_wp2_with fail
  go_loopg [3, 5] (12 : Nat) (fun k v3 v5 wr => ∃ (i : Nat) (xs : List S42) (busy : List Bool), i ≤ l0.length ∧ i ≤ 12 ∧ k = 12 - i ∧ v5 = .int .i64 i ∧ busy.length = 3 ∧ Aside0 (Kd.R k42 42 wr w.heap.size (fun b => b ≠ w.heap.size) v3 xs) ∧
    wr.heap[w.heap.size]? = some (busyObj busy) ∧ Aside0 (Below w.heap.size w wr) ∧ xs.length = i ∧ Aside0 (xs ++ jobsOf ((l0.take 12).drop i) i busy = r))
  case atStart => exact ⟨0, [], [false, false, false], Nat.zero_le _, by omega, rfl, rfl, rfl, ⟨Kd.R_nil _ _ _ _ _⟩, heap_alloc_new w _, HB0, rfl, HRES⟩
  case round =>
    clear HB0 HRES
    obtain ⟨i, xs, busy, hi, hi12, rfl, rfl, hbl, HO, hbz, HB, hxl, HRES⟩ := hrel
    by_cases hlt : i < l0.length
    · by_cases h12 : i < 12
      · obtain ⟨ad, e, x0, x1, x2, x3⟩ := job_at (Kd.C_below HR0.out HB.out) i hlt
        cases e
        have hli : i < (l0.take 12).length := by rw [List.length_take]; omega
        have hj := HIN.out (l0.take 12)[i] (List.getElem_mem hli)
        have hjd := jobsOf_drop (l0.take 12) i hli busy
        rw [List.getElem_take] at hj hjd
        have hr2 := HRES.out
        rw [hjd] at hr2
        obtain ⟨j, hje⟩ : ∃ j, l0[i] = j := ⟨_, rfl⟩
        rw [hje] at x0 x1 x2 x3 hj hr2
        have HRES2 := Aside0.mk hr2
        have h1 := pk_range (n := 5) hj.1 (by decide)
        have h2 := pk_range (n := 4) hj.2.1 (by decide)
        have h3 := pk_range (n := 3) hj.2.2 (by decide)
        obtain ⟨q1, hq1⟩ : ∃ q, pk j.f1 5 = q := ⟨_, rfl⟩
        obtain ⟨q2, hq2⟩ : ∃ q, pk j.f2 4 = q := ⟨_, rfl⟩
        obtain ⟨q3, hq3⟩ : ∃ q, pk j.f3 3 = q := ⟨_, rfl⟩
        have HP1 := Aside0.mk (fun w => hq1 ▸ pick_calls j.f1 5 hj.1 (by decide) (by decide) w)
        have HP2 := Aside0.mk (fun w => hq2 ▸ pick_calls j.f2 4 hj.2.1 (by decide) (by decide) w)
        have HP3 := Aside0.mk (fun w => hq3 ▸ pick_calls j.f3 3 hj.2.2 (by decide) (by decide) w)
        rw [hq1] at h1
        rw [hq2] at h2
        rw [hq3] at h3
        have HQ1 := Aside0.mk hq1
        have HQ2 := Aside0.mk hq2
        have HQ3 := Aside0.mk hq3
        have HH1 := Aside0.mk h1
        have HH2 := Aside0.mk h2
        have HH3 := Aside0.mk h3
        clear hje hj hr2 hjd HRES hli hq1 hq2 hq3 h1 h2 h3
        have hn1 := World.new_ne wr _ x1
        have hn2 := World.new_ne wr _ x2
        have hwi : IntKind.i64.wrap ((i : Int) + 1) = (i : Int) + 1 := (i64_w _).trans (wrap_in (by unfold inI64; omega))
        have hwq : IntKind.i64.wrap (1 + q2) = 1 + q2 := (i64_w _).trans (wrap_in (by have := HH2.out; unfold inI64; omega))
        go_wp2_with fail
        go_region_held (fun w' => w'.cell? ⟨(ad.add (i * 4)).block, (ad.add (i * 4)).off + 1, none⟩ = some (.int .i64 j.f1) ∧ w'.cell? ⟨(ad.add (i * 4)).block, (ad.add (i * 4)).off + 2, none⟩ = some (.int .i64 j.f2)) (go_keep)
          (first | (go_at_call 10; (with_reducible refine (HP1.out _).mono ?_); rintro e w' ⟨rfl, rfl⟩) | (go_at_call 10; (with_reducible refine (HP2.out _).mono ?_); rintro e w' ⟨rfl, rfl⟩))
        all_goals try simp only [hwi, hwq]
        all_goals trace_state
        all_goals (
          have hbk : (wr.alloc (.cells #[.int .i64 ((i : Int) + 1), .int .i64 q1, .int .i64 (1 + q2), .int .i64 (-1)] 42)).drew.heap[wr.heap.size]? = some (.cells #[.int .i64 ((i : Int) + 1), .int .i64 q1, .int .i64 (1 + q2), .int .i64 (-1)] 42) := heap_alloc_new wr _
          have hb2 : Below wr.heap.size wr (wr.alloc (.cells #[.int .i64 ((i : Int) + 1), .int .i64 q1, .int .i64 (1 + q2), .int .i64 (-1)] 42)).drew := ((Below.refl _ wr).alloc (Nat.le_refl _) _).drew
          have hs2 : wr.heap.size < (wr.alloc (.cells #[.int .i64 ((i : Int) + 1), .int .i64 q1, .int .i64 (1 + q2), .int .i64 (-1)] 42)).drew.heap.size := lt_of_heap hbk
          generalize (wr.alloc (.cells #[.int .i64 ((i : Int) + 1), .int .i64 q1, .int .i64 (1 + q2), .int .i64 (-1)] 42)).drew = W2 at hbk hb2 hs2 ⊢
          have y3 : W2.cell? ⟨(ad.add (i * 4)).block, (ad.add (i * 4)).off + 3, none⟩ = some (.int .i64 j.f3) := (hb2.cell (p := ⟨(ad.add (i * 4)).block, (ad.add (i * 4)).off + 3, none⟩) (World.block_lt_of_cell? wr _ x3)).trans x3
          have HO2 : Aside0 (Kd.R k42 42 W2 w.heap.size (fun b => b ≠ w.heap.size) u3 xs) := ⟨Kd.R_below HO.out hb2⟩
          have hwb := lt_of_heap hbz
          have hbz2 : W2.heap[w.heap.size]? = some (busyObj busy) := (hb2.block _ hwb).trans hbz
          have HB2 : Aside0 (Below w.heap.size w W2) := ⟨HB.out.trans (hb2.mono HB.out.size)⟩
          have k0 : W2.cell? ⟨wr.heap.size, 0, none⟩ = some (.int .i64 ((i : Int) + 1)) := cell_of_block hbk 0 rfl
          have k1 : W2.cell? ⟨wr.heap.size, 1, none⟩ = some (.int .i64 q1) := cell_of_block hbk 1 rfl
          have k2 : W2.cell? ⟨wr.heap.size, 2, none⟩ = some (.int .i64 (1 + q2)) := cell_of_block hbk 2 rfl
          have k3 : W2.cell? ⟨wr.heap.size, 3, none⟩ = some (.int .i64 (-1)) := cell_of_block hbk 3 rfl
          have hh2 := HH2.out
          have HOb : Aside0 (Kd.R k42 42 W2 w.heap.size (fun b => b ≠ w.heap.size ∧ b < wr.heap.size) u3 xs) := ⟨Kd.R_below (Kd.R_mono (Kd.R_bound HO.out) (fun k h => ⟨h.1, h.2.2.1⟩)) hb2⟩
          have HS : Aside0 (w.heap.size ≤ wr.heap.size) := ⟨Nat.le_of_lt hwb⟩
          have BZ := Aside0.mk hbz2
          obtain ⟨g0, g1⟩ := HH3.out
          have hlq : q3.toNat < busy.length := by omega
          have kb : W2.cell? ⟨w.heap.size, q3.toNat, none⟩ = some (.bool (busy.getD q3.toNat false)) := cell_of_block hbz2 _ (by simp [List.getD_eq_getElem?_getD, hlq])
          have hne : w.heap.size ≠ wr.heap.size := Nat.ne_of_lt hwb
          have hne' : wr.heap.size ≠ w.heap.size := Ne.symm hne
          have fz2 : W2.frozen? ⟨wr.heap.size, 2, none⟩ = false := by simp [World.frozen?, hbk]
          have fz3 : W2.frozen? ⟨wr.heap.size, 3, none⟩ = false := by simp [World.frozen?, hbk]
          have fzb : W2.frozen? ⟨w.heap.size, q3.toNat, none⟩ = false := by simp [World.frozen?, hbz2, busyObj]
          clear x1 x2 x3 hn1 hn2 hwi hwq HO HB hbz hb2 hbk hbz2
          obtain rfl | rfl | rfl | rfl : q2 = 0 ∨ q2 = 1 ∨ q2 = 2 ∨ q2 = 3 := by omega
          · simp only [Int.reduceAdd] at k2 ⊢
            have hst : jobStep i j busy = (⟨(i : Int) + 1, q1, 1, -1⟩, busy) := by
              unfold jobStep
              rw [HQ1.out, HQ2.out]
              rfl
            have hr3 := HRES2.out
            rw [hst] at hr3
            have HR3 := Aside0.mk hr3
            clear hr3 hst HRES2 y3
            go_wp2_with (first | ((with_reducible refine gate_builtin (b := .append) (xs := #[.tmp 60, .tmp 62]) rfl ?_); at_builtin; refine append_at k42 (w0 := w) (base := w.heap.size) (H := W2.heap.size) rfl (.tmp 60) (.tmp 62) 32 (.agg #[(.int .i64 0), (.int .i64 0), (.int .i64 0), (.int .i64 0)]) 32 rfl Tryd.underlying32 info42 rfl (by decide) (by omega) u3 xs ⟨(i : Int) + 1, q1, 1, -1⟩ [.int .i64 ((i : Int) + 1), .int .i64 q1, .int .i64 1, .int .i64 (-1)] (fun b => b ≠ w.heap.size) ?aH rfl rfl ?aP ?aF ?aO ?aB ?aS ?aL ?_; (case aH => rfl); (case aP => exact k42_mkM _ _ _ ⟨(i : Int) + 1, q1, 1, -1⟩); (case aF => exact (fun k hk => by omega)); (case aO => exact HO2.out); (case aB => exact HB2.out); (case aS => exact HB2.out.size); (case aL => omega); intro v9 w9 ho hb hg hat))
            go_roundg (12 - (i + 1))
            case measure => omega
            case rel => exact ⟨i + 1, xs ++ [⟨(i : Int) + 1, q1, 1, -1⟩], busy, by omega, by omega, rfl, by go_num, hbl, ⟨ho⟩, busy_kept HO2.out hg BZ.out, ⟨hb⟩, by simp [hxl], ⟨by rw [List.append_assoc]; exact HR3.out⟩⟩
          · simp only [Int.reduceAdd] at k2 ⊢
            by_cases hbt : busy.getD q3.toNat false = true
            · have hst := step2T i j busy HQ1.out HQ2.out HQ3.out hbt
              have hr3 := HRES2.out
              rw [hst] at hr3
              have HR3 := Aside0.mk hr3
              clear hr3 hst HRES2
              rw [hbt] at kb
              have HBT : Aside0 True := ⟨trivial⟩
              clear hbt
              go_wp2_with (first | (go_at_call 10; (with_reducible refine (HP3.out _).mono ?_); rintro e w' ⟨rfl, rfl⟩) | ((with_reducible refine gate_builtin (b := .append) (xs := #[.tmp 60, .tmp 62]) rfl ?_); at_builtin; refine append_at k42 (w0 := w) (base := w.heap.size) (H := w'.heap.size) rfl (.tmp 60) (.tmp 62) 32 (.agg #[(.int .i64 0), (.int .i64 0), (.int .i64 0), (.int .i64 0)]) 32 rfl Tryd.underlying32 info42 rfl (by decide) (by omega) u3 xs ⟨(i : Int) + 1, q1, 3, q3⟩ [.int .i64 ((i : Int) + 1), .int .i64 q1, .int .i64 3, .int .i64 (q3)] (fun b => b ≠ w.heap.size) ?aH rfl rfl ?aP ?aF ?aO ?aB ?aS ?aL ?_; (case aH => simp [World.setCell]); (case aP => exact k42_mkM _ _ _ ⟨(i : Int) + 1, q1, 3, q3⟩); (case aF => exact (fun k hk => by omega)); (case aO => exact (Kd.R_mono (Kd.R_step HOb.out (fun k hk _ => by repeat (first | rfl | rw [Below.heap_setCell _ _ _ _ (by first | exact hk.1 | exact Nat.ne_of_lt hk.2)]))) (fun _ h => h.1))); (case aB => exact (by repeat (first | exact HB2.out | refine Below.setCell ?_ (by first | exact Nat.le_refl _ | exact HS.out) _))); (case aS => exact HB2.out.size); (case aL => omega); intro v9 w9 ho hb hg hat))
              go_roundg (12 - (i + 1))
              case measure => omega
              case rel => exact ⟨i + 1, xs ++ [⟨(i : Int) + 1, q1, 3, q3⟩], (busy), by omega, by omega, rfl, by go_num, hbl, ⟨ho⟩, busy_kept (W := _) (Kd.R_mono (Kd.R_step HOb.out (fun k hk _ => by repeat (first | rfl | rw [Below.heap_setCell _ _ _ _ (by first | exact hk.1 | exact Nat.ne_of_lt hk.2)]))) (fun _ h => h.1)) hg (by repeat (first | exact BZ.out | rw [Below.heap_setCell _ _ _ _ hne])), ⟨hb⟩, by simp [hxl], ⟨by rw [List.append_assoc]; exact HR3.out⟩⟩
            · have hbt := Bool.not_eq_true _ |>.mp hbt
              have hst := step2F i j busy HQ1.out HQ2.out HQ3.out hbt
              have hr3 := HRES2.out
              rw [hst] at hr3
              have HR3 := Aside0.mk hr3
              clear hr3 hst HRES2
              rw [hbt] at kb
              have HBT : Aside0 True := ⟨trivial⟩
              clear hbt
              go_wp2_with (first | (go_at_call 10; (with_reducible refine (HP3.out _).mono ?_); rintro e w' ⟨rfl, rfl⟩) | ((with_reducible refine gate_builtin (b := .append) (xs := #[.tmp 60, .tmp 62]) rfl ?_); at_builtin; refine append_at k42 (w0 := w) (base := w.heap.size) (H := w'.heap.size) rfl (.tmp 60) (.tmp 62) 32 (.agg #[(.int .i64 0), (.int .i64 0), (.int .i64 0), (.int .i64 0)]) 32 rfl Tryd.underlying32 info42 rfl (by decide) (by omega) u3 xs ⟨(i : Int) + 1, q1, 2, q3⟩ [.int .i64 ((i : Int) + 1), .int .i64 q1, .int .i64 2, .int .i64 (q3)] (fun b => b ≠ w.heap.size) ?aH rfl rfl ?aP ?aF ?aO ?aB ?aS ?aL ?_; (case aH => simp [World.setCell]); (case aP => exact k42_mkM _ _ _ ⟨(i : Int) + 1, q1, 2, q3⟩); (case aF => exact (fun k hk => by omega)); (case aO => exact (Kd.R_mono (Kd.R_step HOb.out (fun k hk _ => by repeat (first | rfl | rw [Below.heap_setCell _ _ _ _ (by first | exact hk.1 | exact Nat.ne_of_lt hk.2)]))) (fun _ h => h.1))); (case aB => exact (by repeat (first | exact HB2.out | refine Below.setCell ?_ (by first | exact Nat.le_refl _ | exact HS.out) _))); (case aS => exact HB2.out.size); (case aL => omega); intro v9 w9 ho hb hg hat))
              go_roundg (12 - (i + 1))
              case measure => omega
              case rel => exact ⟨i + 1, xs ++ [⟨(i : Int) + 1, q1, 2, q3⟩], (busy.set q3.toNat true), by omega, by omega, rfl, by go_num, (by simp [hbl]), ⟨ho⟩, busy_kept (W := _) (Kd.R_mono (Kd.R_step HOb.out (fun k hk _ => by repeat (first | rfl | rw [Below.heap_setCell _ _ _ _ (by first | exact hk.1 | exact Nat.ne_of_lt hk.2)]))) (fun _ h => h.1)) hg (busy_set BZ.out HS.out hne hlq), ⟨hb⟩, by simp [hxl], ⟨by rw [List.append_assoc]; exact HR3.out⟩⟩
          · simp only [Int.reduceAdd] at k2 ⊢
            have hst := step3 i j busy HQ1.out HQ2.out HQ3.out
            have hr3 := HRES2.out
            rw [hst] at hr3
            have HR3 := Aside0.mk hr3
            clear hr3 hst HRES2
            have HBT : Aside0 True := ⟨trivial⟩
            go_wp2_with (first | (go_at_call 10; (with_reducible refine (HP3.out _).mono ?_); rintro e w' ⟨rfl, rfl⟩) | ((with_reducible refine gate_builtin (b := .append) (xs := #[.tmp 60, .tmp 62]) rfl ?_); at_builtin; refine append_at k42 (w0 := w) (base := w.heap.size) (H := w'.heap.size) rfl (.tmp 60) (.tmp 62) 32 (.agg #[(.int .i64 0), (.int .i64 0), (.int .i64 0), (.int .i64 0)]) 32 rfl Tryd.underlying32 info42 rfl (by decide) (by omega) u3 xs ⟨(i : Int) + 1, q1, 3, q3⟩ [.int .i64 ((i : Int) + 1), .int .i64 q1, .int .i64 3, .int .i64 (q3)] (fun b => b ≠ w.heap.size) ?aH rfl rfl ?aP ?aF ?aO ?aB ?aS ?aL ?_; (case aH => simp [World.setCell]); (case aP => exact k42_mkM _ _ _ ⟨(i : Int) + 1, q1, 3, q3⟩); (case aF => exact (fun k hk => by omega)); (case aO => exact (Kd.R_mono (Kd.R_step HOb.out (fun k hk _ => by repeat (first | rfl | rw [Below.heap_setCell _ _ _ _ (by first | exact hk.1 | exact Nat.ne_of_lt hk.2)]))) (fun _ h => h.1))); (case aB => exact (by repeat (first | exact HB2.out | refine Below.setCell ?_ (by first | exact Nat.le_refl _ | exact HS.out) _))); (case aS => exact HB2.out.size); (case aL => omega); intro v9 w9 ho hb hg hat))
            go_roundg (12 - (i + 1))
            case measure => omega
            case rel => exact ⟨i + 1, xs ++ [⟨(i : Int) + 1, q1, 3, q3⟩], (busy), by omega, by omega, rfl, by go_num, hbl, ⟨ho⟩, busy_kept (W := _) (Kd.R_mono (Kd.R_step HOb.out (fun k hk _ => by repeat (first | rfl | rw [Below.heap_setCell _ _ _ _ (by first | exact hk.1 | exact Nat.ne_of_lt hk.2)]))) (fun _ h => h.1)) hg (by repeat (first | exact BZ.out | rw [Below.heap_setCell _ _ _ _ hne])), ⟨hb⟩, by simp [hxl], ⟨by rw [List.append_assoc]; exact HR3.out⟩⟩
          · simp only [Int.reduceAdd] at k2 ⊢
            have hst : jobStep i j busy = (⟨(i : Int) + 1, q1, 4, -1⟩, busy) := by
              unfold jobStep
              rw [HQ1.out, HQ2.out]
              rfl
            have hr3 := HRES2.out
            rw [hst] at hr3
            have HR3 := Aside0.mk hr3
            clear hr3 hst HRES2 y3
            go_wp2_with (first | ((with_reducible refine gate_builtin (b := .append) (xs := #[.tmp 60, .tmp 62]) rfl ?_); at_builtin; refine append_at k42 (w0 := w) (base := w.heap.size) (H := W2.heap.size) rfl (.tmp 60) (.tmp 62) 32 (.agg #[(.int .i64 0), (.int .i64 0), (.int .i64 0), (.int .i64 0)]) 32 rfl Tryd.underlying32 info42 rfl (by decide) (by omega) u3 xs ⟨(i : Int) + 1, q1, 4, -1⟩ [.int .i64 ((i : Int) + 1), .int .i64 q1, .int .i64 4, .int .i64 (-1)] (fun b => b ≠ w.heap.size) ?aH rfl rfl ?aP ?aF ?aO ?aB ?aS ?aL ?_; (case aH => rfl); (case aP => exact k42_mkM _ _ _ ⟨(i : Int) + 1, q1, 4, -1⟩); (case aF => exact (fun k hk => by omega)); (case aO => exact HO2.out); (case aB => exact HB2.out); (case aS => exact HB2.out.size); (case aL => omega); intro v9 w9 ho hb hg hat))
            go_roundg (12 - (i + 1))
            case measure => omega
            case rel => exact ⟨i + 1, xs ++ [⟨(i : Int) + 1, q1, 4, -1⟩], busy, by omega, by omega, rfl, by go_num, hbl, ⟨ho⟩, busy_kept HO2.out hg BZ.out, ⟨hb⟩, by simp [hxl], ⟨by rw [List.append_assoc]; exact HR3.out⟩⟩)
      · have hnil : (l0.take 12).drop i = [] := by apply List.drop_eq_nil_of_le; rw [List.length_take]; omega
        have hr2 := HRES.out
        rw [hnil] at hr2
        have hr3 : xs = r := by simpa [jobsOf] using hr2
        have HR3 := Aside0.mk hr3
        clear hr2 hr3 hnil HRES
        go_wp2_with fail
        go_ret
        exact ⟨u3, rfl, HR3.out ▸ Kd.R_mono HO.out (fun _ _ => trivial), HB.out⟩
    · have hnil : (l0.take 12).drop i = [] := by apply List.drop_eq_nil_of_le; rw [List.length_take]; omega
      have hr2 := HRES.out
      rw [hnil] at hr2
      have hr3 : xs = r := by simpa [jobsOf] using hr2
      have HR3 := Aside0.mk hr3
      clear hr2 hr3 hnil HRES
      go_wp2_with fail
      go_ret
      exact ⟨u3, rfl, HR3.out ▸ Kd.R_mono HO.out (fun _ _ => trivial), HB.out⟩
#print axioms humpyardlaw21_Jobs.calls
end Go.Proofs.YtffcdglhobdlhaaDoor.PA
