/- Helpers of the session's own: plain laws on the printed list functions (Equal, Index, Contains), and addresses of slices that are read. -/
import Derived.Test.YtffcdglhobdlhaaDoorPAf21
import Derived.Test.YtffcdglhobdlhaaDoorPAf19
import Derived.WalkKit
namespace Go.Proofs.YtffcdglhobdlhaaDoor.PA
open Go.RowKit Go.Proofs.YtffcdglhobdlhaaDoorW.PrintWords Go.Proofs.YtffcdglhobdlhaaDoorW.PrintLast Go.Proofs.YtffcdglhobdlhaaDoorW.PrintMore

theorem wrap_nat {i n : Nat} (h : i < n) (hn : n ≤ 9223372036854775807) : wrap64 ((i : Int) + 1) = ((i + 1 : Nat) : Int) := by
  unfold wrap64
  omega
theorem rd_get {xs : List Int} {i : Nat} (h : i < xs.length) : rd xs (i : Int) = xs[i] := by
  simp [rd, List.getD_eq_getElem?_getD, h]

theorem Equal_l0 (a b : List Int) (hl : a.length = b.length) (hb : a.length ≤ 9223372036854775807) (d : Nat) : ∀ (k i : Nat), i ≤ a.length → a.length - i = d → d < k →
    slices_Equal_int_int.l0 k a b (a.length : Int) (i : Int) = some (decide (a.drop i = b.drop i)) := by
  induction d with
  | zero =>
    intro k i hi hd hk
    obtain ⟨k, rfl⟩ : ∃ m, k = m + 1 := ⟨k - 1, by omega⟩
    simp only [slices_Equal_int_int.l0]
    rw [if_neg (by omega), List.drop_of_length_le (by omega), List.drop_of_length_le (by omega)]
    simp
  | succ d ih =>
    intro k i hi hd hk
    obtain ⟨k, rfl⟩ : ∃ m, k = m + 1 := ⟨k - 1, by omega⟩
    have hia : i < a.length := by omega
    have hib : i < b.length := by omega
    simp only [slices_Equal_int_int.l0]
    rw [if_pos (by omega), if_pos (by omega), if_pos (by omega), if_pos (by omega), rd_get hia, rd_get hib, List.drop_eq_getElem_cons hia, List.drop_eq_getElem_cons hib]
    by_cases e : a[i] = b[i]
    · rw [if_pos e, wrap_nat hia hb, ih k (i + 1) (by omega) (by omega) (by omega)]
      simp only [Option.some.injEq, decide_eq_decide, List.cons.injEq]
      exact ⟨fun h => ⟨e, h⟩, fun h => h.2⟩
    · rw [if_neg e]
      simp only [Option.some.injEq, List.cons.injEq]
      exact (decide_eq_false (fun h => e h.1)).symm
theorem Equal_tells (a b : List Int) (hb : a.length ≤ 9223372036854775807) : slices_Equal_int_int.f (a.length + 1) a b = some (decide (a = b)) := by
  unfold slices_Equal_int_int.f
  by_cases hl : a.length = b.length
  · rw [if_pos (by omega)]
    have h := Equal_l0 a b hl hb a.length (a.length + 1) 0 (by omega) (by omega) (by omega)
    simpa using h
  · rw [if_neg (by omega)]
    have : ¬ a = b := fun e => hl (by rw [e])
    simp [this]

theorem Index_l0 (a : List Int) (x : Int) (hb : a.length ≤ 9223372036854775807) (d : Nat) : ∀ (k i : Nat), i ≤ a.length → a.length - i = d → d < k →
    ∃ r, slices_Index_int_int.l0 k a x (a.length : Int) (i : Int) = some r ∧ ((a.drop i).contains x = decide (r ≥ 0)) := by
  induction d with
  | zero =>
    intro k i hi hd hk
    obtain ⟨k, rfl⟩ : ∃ m, k = m + 1 := ⟨k - 1, by omega⟩
    refine ⟨-1, ?_, ?_⟩
    · simp only [slices_Index_int_int.l0]
      rw [if_neg (by omega)]
    · rw [List.drop_of_length_le (by omega)]
      simp
  | succ d ih =>
    intro k i hi hd hk
    obtain ⟨k, rfl⟩ : ∃ m, k = m + 1 := ⟨k - 1, by omega⟩
    have hia : i < a.length := by omega
    by_cases e : x = a[i]
    · refine ⟨i, ?_, ?_⟩
      · simp only [slices_Index_int_int.l0]
        rw [if_pos (by omega), if_pos (by omega), if_pos (by omega), rd_get hia, if_pos e]
      · rw [List.drop_eq_getElem_cons hia, List.contains_cons, e, beq_self_eq_true, Bool.true_or]
        exact (decide_eq_true (by omega)).symm
    · obtain ⟨r, hr, hc⟩ := ih k (i + 1) (by omega) (by omega) (by omega)
      refine ⟨r, ?_, ?_⟩
      · simp only [slices_Index_int_int.l0]
        rw [if_pos (by omega), if_pos (by omega), if_pos (by omega), rd_get hia, if_neg e, wrap_nat hia hb]
        exact hr
      · rw [List.drop_eq_getElem_cons hia, List.contains_cons, beq_eq_false_iff_ne.2 e, Bool.false_or]
        exact hc
theorem Contains_tells (a : List Int) (x : Int) (hb : a.length ≤ 9223372036854775807) : slices_Contains_int_int.f (a.length + 1) a x = some (a.contains x) := by
  obtain ⟨r, hr, hc⟩ := Index_l0 a x hb a.length (a.length + 1) 0 (by omega) (by omega) (by omega)
  unfold slices_Contains_int_int.f slices_Index_int_int.f
  have hr' : slices_Index_int_int.l0 (a.length + 1) a x (a.length : Int) 0 = some r := by simpa using hr
  rw [hr']
  simp only [Option.bind_some]
  rw [← hc]
  simp

/-- A slice of ints that is read: its address written out. -/
theorem C_addr {w : World} {A : Option Addr} {n : Nat} {xs : List Int} (h : Kd.C (Kd.int .i64) w A n xs) (hn : 0 < n) :
    ∃ b off, A = some ⟨b, off, none⟩ ∧ b < w.heap.size ∧ ∀ j, j < xs.length → w.cell? ⟨b, off + j, none⟩ = some (.int .i64 (xs.getD j 0)) := by
  obtain ⟨hl, _, hc⟩ := h
  obtain ⟨⟨b, off, sp⟩, rfl, hcell⟩ := hc hn
  have at_ : ∀ j, j < xs.length → w.cell? ((⟨b, off, sp⟩ : Addr).add j) = some (.int .i64 (xs.getD j 0)) := by
    intro j hj
    obtain ⟨c, hcl, hcv, hcc⟩ := hcell j xs[j] (List.getElem?_eq_getElem hj)
    have hcv' : c = [Value.int .i64 xs[j]] := hcv
    have := hcc 0 (.int .i64 xs[j]) (by rw [hcv']; rfl)
    have hs : (Kd.int IntKind.i64).sz = 1 := rfl
    rw [hs, Nat.mul_one, Nat.add_zero] at this
    simpa [List.getD_eq_getElem?_getD, hj] using this
  have h0 := at_ 0 (by omega)
  have e0 : (⟨b, off, sp⟩ : Addr).add 0 = ⟨b, off, sp⟩ := by unfold Addr.add; simp
  rw [e0] at h0
  have hsp : sp = none := by
    cases sp with
    | none => rfl
    | some s =>
      unfold World.cell? at h0
      split at h0 <;> simp at h0
  subst hsp
  refine ⟨b, off, rfl, World.block_lt_of_cell? w _ h0, fun j hj => ?_⟩
  rw [← at_ j hj]
  congr 1
  unfold Addr.add
  split <;> simp_all
end Go.Proofs.YtffcdglhobdlhaaDoor.PA
