/- The plain law of TraceKinds. -/
import Derived.Test.YtffcdglhobdlhaaDoorPAf4
import Derived.Test.YtffcdglhobdlhaaDoorPureA
namespace Go.Proofs.YtffcdglhobdlhaaDoor.Pure
open Go.RowKit Go.Proofs.YtffcdglhobdlhaaDoor.PA Go.Proofs.YtffcdglhobdlhaaDoorW.PrintWords Go.Proofs.YtffcdglhobdlhaaDoorW.PrintLast

def run (f : Int) (n : Nat) : List Int := (List.range n).map fun (i : Nat) => f + (i : Int)
theorem run_len (f : Int) (n : Nat) : (run f n).length = n := by simp [run]
theorem run_succ (f : Int) (n : Nat) : run f (n + 1) = run f n ++ [f + (n : Int)] := by simp [run, List.range_succ]

theorem ne_len {a b : List Int} (h : a.length ≠ b.length) : ¬ a = b := fun e => h (by rw [e])

theorem tail_true (f : Int) (m : Nat) (l : List Int) (hl : l.length = m) (h3 : 3 ≤ m) (hm : m ≤ 20) (h0 : l = f :: (f + 1) :: l.drop 2) :
    kindOf l l = 1 ∧ kindOf l (l ++ [f - 1]) = 3 ∧ kindOf (l ++ [f - 1]) l = 0 ∧ kindOf l (l.take 1) = 4 ∧ kindOf l ((l.take 2).drop 1) = 0 ∧ kindOf l [] = 0 ∧ kindOf [] l = 3 := by
  obtain ⟨t, rfl⟩ : ∃ t, l = f :: (f + 1) :: t := ⟨_, h0⟩
  clear h0
  cases t with
  | nil => simp at hl; omega
  | cons z t =>
    simp only [List.length_cons] at hl
    refine ⟨?_, ?_, ?_, ?_, ?_, ?_, ?_⟩
    · simp [kindOf]
    · unfold kindOf
      rw [if_neg (ne_len (by simp)), if_neg (fun h => ne_len (by simp) h.2), if_pos (by simp)]
    · unfold kindOf
      rw [if_neg (ne_len (by simp)), if_neg (by intro h; have := h.2; simp at this; omega), if_neg (ne_len (by simp)), if_neg (by intro h; have := h.1; simp at this)]
    · simp [kindOf]
    · simp [kindOf]; omega
    · simp [kindOf]
    · simp [kindOf]

theorem l1_true (f : Int) (m : Nat) (l : List Int) (hl : l.length = m) (h3 : 3 ≤ m) (hm : m ≤ 20) (h0 : l = f :: (f + 1) :: l.drop 2) (hf : 0 ≤ f ∧ f < 1000) (d : Nat) :
    ∀ (i k : Nat), i < m → m - i = d → d + 50 ≤ k → humpyardlaw21_TraceKinds.l1 k true (m : Int) f l (i : Int) = some true := by
  induction d with
  | zero => intro i k hi hd; omega
  | succ d ih =>
    intro i k hi hd hk
    obtain ⟨k, rfl⟩ : ∃ n, k = n + 1 := ⟨k - 1, by omega⟩
    rw [humpyardlaw21_TraceKinds.l1]
    have hw : wrap64 ((i : Int) + 1) = ((i + 1 : Nat) : Int) := wrap_nat hi (by omega)
    rw [hw]
    by_cases hlast : i + 1 < m
    · rw [if_pos (by omega), if_pos (by omega), if_pos (by omega), if_pos (by omega), if_pos (by omega), Kind_at (by rw [List.length_drop]; omega) (by rw [List.length_drop]; omega)]
      have h2 : kindOf (l.drop (i : Int).toNat) (l.drop ((i + 1 : Nat) : Int).toNat) = 2 := by
        simp only [Int.toNat_natCast]
        unfold kindOf
        rw [if_neg (ne_len (by simp only [List.length_drop]; omega)), if_pos ⟨by simp only [List.length_drop]; omega, by rw [List.drop_drop]⟩]
      rw [h2]
      simp only [Option.bind_some]
      rw [if_pos trivial]
      exact ih (i + 1) k (by omega) (by omega) (by omega)
    · obtain ⟨t1, t2, t3, t4, t5, t6, t7⟩ := tail_true f m l hl h3 hm h0
      have hwf : wrap64 (f - 1) = f - 1 := by unfold wrap64; omega
      have hgl : (l ++ [f - 1]).length = m + 1 := by simp [hl]
      have htl : (l.take 1).length = 1 := by simp; omega
      rw [if_neg (by omega), if_pos (by simp only [List.length_nil]; omega)]
      simp only [List.nil_append, Option.bind_some, hwf]
      rw [if_pos (by omega), if_pos trivial, Kind_at (by omega) (by omega), t1]
      simp only [Option.bind_some]
      rw [if_pos trivial, Kind_at (by omega) (by omega), t2]
      simp only [Option.bind_some]
      rw [if_pos trivial, Kind_at (by omega) (by omega), t3]
      simp only [Option.bind_some]
      rw [if_pos trivial, if_pos (by omega), Kind_at (by omega) (by omega), t4]
      simp only [Option.bind_some]
      rw [if_pos trivial, if_pos (by omega), if_pos (by omega), Kind_at (by omega) (by omega), t5]
      simp only [Option.bind_some]
      rw [if_pos trivial, Kind_at (by omega) (by omega), t6]
      simp only [Option.bind_some]
      rw [if_pos trivial, Kind_at (by simp) (by simp; omega), t7]
      rfl

theorem l0_true (f : Int) (m : Nat) (h3 : 3 ≤ m) (hm : m ≤ 20) (hf : 0 ≤ f ∧ f < 1000) (d : Nat) :
    ∀ (i k : Nat), i ≤ m → m - i = d → d + 100 ≤ k → humpyardlaw21_TraceKinds.l0 k true (m : Int) f (run f i) (i : Int) = some true := by
  induction d with
  | zero =>
    intro i k hi hd hk
    obtain ⟨k, rfl⟩ : ∃ n, k = n + 1 := ⟨k - 1, by omega⟩
    obtain rfl : i = m := by omega
    rw [humpyardlaw21_TraceKinds.l0, if_neg (by omega)]
    refine l1_true f i (run f i) (run_len f i) h3 hm ?_ hf i 0 k (by omega) (by omega) (by omega)
    obtain ⟨n, rfl⟩ : ∃ n, i = n + 2 := ⟨i - 2, by omega⟩
    simp [run, List.range_succ_eq_map]
  | succ d ih =>
    intro i k hi hd hk
    obtain ⟨k, rfl⟩ : ∃ n, k = n + 1 := ⟨k - 1, by omega⟩
    rw [humpyardlaw21_TraceKinds.l0, if_pos (by omega), if_pos (by rw [run_len]; omega)]
    have hw : wrap64 ((i : Int) + 1) = ((i + 1 : Nat) : Int) := wrap_nat (n := m) (by omega) (by omega)
    have hwf : wrap64 (f + (i : Int)) = f + (i : Int) := by unfold wrap64; omega
    rw [hw, hwf, ← run_succ]
    exact ih (i + 1) k (by omega) (by omega) (by omega)

theorem TraceKinds : humpyardlaw21_TraceKinds.Pure := by
  intro a0 a1 w0 w1
  have h0 := pk_range (c := a0) (n := 18) (in_of_wf w0) (by decide)
  have h1 := pk_range (c := a1) (n := 1000) (in_of_wf w1) (by decide)
  refine ⟨200, ?_⟩
  unfold humpyardlaw21_TraceKinds.f
  rw [awake_true (by decide), pick_f (in_of_wf w0) (by decide), pick_f (in_of_wf w1) (by decide)]
  simp only [Option.bind_some]
  have hw : wrap64 (3 + pk a0 18) = (((3 + pk a0 18).toNat : Nat) : Int) := by unfold wrap64; omega
  rw [hw]
  exact l0_true (pk a1 1000) (3 + pk a0 18).toNat (by omega) (by omega) h1 _ 0 200 (by omega) rfl (by omega)
end Go.Proofs.YtffcdglhobdlhaaDoor.Pure
