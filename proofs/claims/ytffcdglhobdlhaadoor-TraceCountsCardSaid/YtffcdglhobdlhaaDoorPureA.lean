/- The plain laws of trace.Kind and of the examples (awake). -/
import Derived.Test.YtffcdglhobdlhaaDoorPAf7
import Derived.Test.YtffcdglhobdlhaaDoorPAf10
namespace Go.Proofs.YtffcdglhobdlhaaDoor.PA
open Go.RowKit Go.Proofs.YtffcdglhobdlhaaDoorW.PrintWords Go.Proofs.YtffcdglhobdlhaaDoorW.PrintLast Go.Proofs.YtffcdglhobdlhaaDoorW.PrintMore

theorem more {α : Type} {f : Nat → Option α} (hm : ∀ k, LeO (f k) (f (k + 1))) {k n : Nat} {r : α} (h : f k = some r) (hk : k ≤ n) : f n = some r := by
  obtain ⟨d, rfl⟩ : ∃ d, n = k + d := ⟨n - k, by omega⟩
  clear hk
  induction d with
  | zero => exact h
  | succ d ih => exact hm _ _ ih

/-- What trace.Kind tells. -/
def kindOf (b a : List Int) : Int :=
  if b = a then 1 else if 1 < b.length ∧ b.drop 1 = a then 2 else if a.take b.length = b then 3 else if a.length = 1 ∧ b.take a.length = a then 4 else 0

theorem Equal_at {a b : List Int} {k : Nat} (hb : a.length ≤ 9223372036854775807) (hk : a.length < k) : slices_Equal_int_int.f k a b = some (decide (a = b)) :=
  more (slices_Equal_int_int.mono a b) (Equal_tells a b hb) hk

theorem Kind_j0 (k : Nat) (b a : List Int) (h1 : ¬ b = a) (q : Bool) (hq : q = decide (1 < b.length ∧ b.drop 1 = a)) : trace_Kind.j0 (k + 1) b a q = some (kindOf b a) := by
  simp only [trace_Kind.j0]
  unfold kindOf trace_begins.f
  rw [if_neg h1]
  by_cases h2 : 1 < b.length ∧ b.drop 1 = a
  · rw [hq, if_pos (decide_eq_true h2), if_pos h2]
  · rw [hq, decide_eq_false h2, if_neg (by decide), if_neg h2]
    simp only [Option.bind_some, decide_eq_true_eq]
    by_cases h3 : a.take b.length = b
    · rw [if_pos h3, if_pos h3]
    · rw [if_neg h3, if_neg h3]
      by_cases h4 : a.length = 1
      · rw [if_pos (by omega)]
        by_cases h5 : b.take a.length = a
        · rw [if_pos h5, if_pos ⟨h4, h5⟩]
        · rw [if_neg h5, if_neg (fun h => h5 h.2)]
      · rw [if_neg (by omega), if_neg (fun h => h4 h.1)]

theorem Kind_at {b a : List Int} {k : Nat} (hb : b.length ≤ 9223372036854775807) (hk : b.length < k) : trace_Kind.f k b a = some (kindOf b a) := by
  obtain ⟨k, rfl⟩ : ∃ m, k = m + 1 := ⟨k - 1, by omega⟩
  unfold trace_Kind.f
  rw [Equal_at hb hk]
  simp only [Option.bind_some, decide_eq_true_eq]
  by_cases h1 : b = a
  · rw [if_pos h1]; unfold kindOf; rw [if_pos h1]
  · rw [if_neg h1]
    by_cases h2 : 1 < b.length
    · rw [if_pos (by omega), if_pos (by omega), Equal_at (by rw [List.length_drop]; omega) (by rw [List.length_drop]; omega)]
      exact Kind_j0 k b a h1 _ (by simp only [h2, true_and])
    · rw [if_neg (by omega)]
      exact Kind_j0 k b a h1 _ (by simp only [h2, false_and, decide_false])

set_option maxRecDepth 100000 in
theorem awake_true {k : Nat} (hk : 4 ≤ k) : humpyardlaw21_awake.f k = some true := by
  have h : humpyardlaw21_awake.f 4 = some true := by
    unfold humpyardlaw21_awake.f
    have h1 : trace_Shared.f [[0, 1], [2], [1, 2]] = some (0, 2, 1, true) := by kernel_rfl
    have h2 : trace_Kind.f 4 [0, 1000, 1] [1000, 1] = some 2 := by kernel_rfl
    rw [h1]; simp only [Option.bind_some]
    have h4 : trace_Report.f [⟨1, 2, 2, 0⟩] [⟨⟨#[120]⟩, 0⟩] = some ⟨#[49, 32, 50, 32, 103, 111, 101, 115, 32, 120, 10]⟩ := by kernel_rfl
    rw [h2, h4]
    simp [trace_Allowed.f, ByteArray.toList_eq]
  exact more humpyardlaw21_awake.mono h hk

/-- pick: which of n things a raw number speaks of. -/
def pk (c n : Int) : Int := if c < 0 then Int.tmod (-(c + 1)) n else Int.tmod c n
def inI64 (c : Int) : Prop := -9223372036854775808 ≤ c ∧ c ≤ 9223372036854775807
instance (c : Int) : Decidable (inI64 c) := by unfold inI64; exact inferInstance
theorem pk_range {c n : Int} (h : inI64 c) (hn : 0 < n) : 0 ≤ pk c n ∧ pk c n < n := by
  unfold pk inI64 at *
  split
  · exact ⟨Int.tmod_nonneg _ (by omega), Int.tmod_lt_of_pos _ hn⟩
  · exact ⟨Int.tmod_nonneg _ (by omega), Int.tmod_lt_of_pos _ hn⟩
theorem wrap_in {c : Int} (h : inI64 c) : wrap64 c = c := by
  obtain ⟨h1, h2⟩ := h
  unfold wrap64
  omega
theorem pick_f {c n : Int} (h : inI64 c) (h0 : 0 < n) : humpyardlaw21_pick.f c n = some (pk c n) := by
  unfold humpyardlaw21_pick.f pk
  by_cases hc : c < 0
  · rw [if_pos hc, if_neg (by omega), if_pos hc, wrap_in (c := c + 1) (by unfold inI64 at *; omega), wrap_in (by unfold inI64 at *; omega)]
  · rw [if_neg hc, if_neg (by omega), if_neg hc]
theorem in_of_wf {a : Int} (h : (Lit.int .i64 a).wf = true) : inI64 a := by
  unfold inI64
  simp [Lit.wf] at h
  exact ⟨h.1, h.2⟩
end Go.Proofs.YtffcdglhobdlhaaDoor.PA
