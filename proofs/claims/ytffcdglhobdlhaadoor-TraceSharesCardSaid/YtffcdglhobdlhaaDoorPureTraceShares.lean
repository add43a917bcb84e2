/- The plain law of TraceShares. -/
import Derived.Test.YtffcdglhobdlhaaDoorPAf3
import Derived.Test.YtffcdglhobdlhaaDoorPureA
namespace Go.Proofs.YtffcdglhobdlhaaDoor.Pure
open Go.RowKit Go.Proofs.YtffcdglhobdlhaaDoor.PA Go.Proofs.YtffcdglhobdlhaaDoorW.PrintWords Go.Proofs.YtffcdglhobdlhaaDoorW.PrintLast Go.Proofs.YtffcdglhobdlhaaDoorW.PrintMore

theorem foldl_min_le (zs : List Int) : ∀ a : Int, zs.foldl min a ≤ a ∧ ∀ y ∈ zs, zs.foldl min a ≤ y := by
  induction zs with
  | nil => intro a; simp
  | cons z zs ih =>
    intro a
    obtain ⟨h1, h2⟩ := ih (min a z)
    simp only [List.foldl_cons]
    refine ⟨by omega, fun y hy => ?_⟩
    rcases List.mem_cons.1 hy with rfl | hy
    · omega
    · exact h2 y hy
theorem foldl_min_mem (zs : List Int) : ∀ a : Int, zs.foldl min a = a ∨ zs.foldl min a ∈ zs := by
  induction zs with
  | nil => intro a; simp
  | cons z zs ih =>
    intro a
    simp only [List.foldl_cons]
    rcases ih (min a z) with h | h
    · rw [h]
      rcases Int.le_total a z with h2 | h2
      · left; omega
      · right; rw [show min a z = z by omega]; simp
    · right; simp [h]
theorem minOf_le {zs : List Int} {y : Int} (h : y ∈ zs) : Lib.minOf zs ≤ y := (foldl_min_le zs _).2 y h
theorem minOf_mem {zs : List Int} (h : zs ≠ []) : Lib.minOf zs ∈ zs := by
  cases zs with
  | nil => exact absurd rfl h
  | cons z zs =>
    unfold Lib.minOf
    rcases foldl_min_mem (z :: zs) ((z :: zs).headD 0) with h | h
    · rw [h]; simp
    · exact h

theorem common_mem {a b : List Int} {y : Int} : y ∈ commonOf a b ↔ y ∈ a ∧ y ∈ b := by simp [commonOf]

theorem rd_L1_nat (l : List (List Int)) (i : Nat) (h : i < l.length) : rd_L1 l (i : Int) = l[i] := by
  simp [rd_L1, List.getD_eq_getElem?_getD, h]

/-- What sharedIn tells: nothing is shared with the lists from j on, or the first that shares. -/
theorem sharedIn_spec (one : List Int) (l : List (List Int)) (d : Nat) : ∀ (j : Nat) (b : Int), j ≤ l.length → l.length - j = d →
    (sharedIn one (l.drop j) b = none ∧ ∀ k, j ≤ k → k < l.length → commonOf one (rd_L1 l (k : Int)) = []) ∨
    (∃ k, j ≤ k ∧ k < l.length ∧ sharedIn one (l.drop j) b = some (b + ((k - j : Nat) : Int), Lib.minOf (commonOf one (rd_L1 l (k : Int)))) ∧ commonOf one (rd_L1 l (k : Int)) ≠ [] ∧
      ∀ k', j ≤ k' → k' < k → commonOf one (rd_L1 l (k' : Int)) = []) := by
  induction d with
  | zero =>
    intro j b hj hd
    obtain rfl : j = l.length := by omega
    left
    rw [List.drop_length]
    exact ⟨rfl, fun k h1 h2 => by omega⟩
  | succ d ih =>
    intro j b hj hd
    have hlt : j < l.length := by omega
    rw [sharedIn_drop one l j hlt b, ← rd_L1_nat l j hlt]
    by_cases hc : commonOf one (rd_L1 l (j : Int)) = []
    · rw [if_pos hc]
      rcases ih (j + 1) (b + 1) (by omega) (by omega) with ⟨h1, h2⟩ | ⟨k, h1, h2, h3, h4, h5⟩
      · left
        refine ⟨h1, fun k hk1 hk2 => ?_⟩
        by_cases e : k = j
        · subst e; exact hc
        · exact h2 k (by omega) hk2
      · right
        refine ⟨k, by omega, h2, ?_, h4, fun k' hk1 hk2 => ?_⟩
        · rw [h3]
          have : b + 1 + ((k - (j + 1) : Nat) : Int) = b + ((k - j : Nat) : Int) := by omega
          rw [this]
        · by_cases e : k' = j
          · subst e; exact hc
          · exact h5 k' (by omega) hk2
    · rw [if_neg hc]
      right
      refine ⟨j, by omega, hlt, ?_, hc, fun k' h1 h2 => by omega⟩
      rw [Nat.sub_self]; simp

theorem sharedAt_spec (l : List (List Int)) (d : Nat) : ∀ (i : Nat), i ≤ l.length → l.length - i = d →
    (sharedAt (l.drop i) (i : Int) = (0, 0, 0, false) ∧ ∀ a b, i ≤ a → a < b → b < l.length → commonOf (rd_L1 l (a : Int)) (rd_L1 l (b : Int)) = []) ∨
    (∃ p q : Nat, i ≤ p ∧ p < q ∧ q < l.length ∧ sharedAt (l.drop i) (i : Int) = ((p : Int), (q : Int), Lib.minOf (commonOf (rd_L1 l (p : Int)) (rd_L1 l (q : Int))), true) ∧
      commonOf (rd_L1 l (p : Int)) (rd_L1 l (q : Int)) ≠ [] ∧
      ∀ a b, i ≤ a → a < b → b < l.length → (a < p ∨ a = p ∧ b < q) → commonOf (rd_L1 l (a : Int)) (rd_L1 l (b : Int)) = []) := by
  induction d with
  | zero =>
    intro i hi hd
    obtain rfl : i = l.length := by omega
    left
    rw [List.drop_length]
    exact ⟨rfl, fun a b h1 h2 h3 => by omega⟩
  | succ d ih =>
    intro i hi hd
    have hlt : i < l.length := by omega
    rw [sharedAt_drop l i hlt, ← rd_L1_nat l i hlt]
    rcases sharedIn_spec (rd_L1 l (i : Int)) l (l.length - (i + 1)) (i + 1) 0 (by omega) rfl with ⟨h1, h2⟩ | ⟨k, h1, h2, h3, h4, h5⟩
    · rw [h1]
      simp only
      rcases ih (i + 1) (by omega) (by omega) with ⟨g1, g2⟩ | ⟨p, q, g1, g2, g3, g4, g5, g6⟩
      · left
        refine ⟨by rw [← g1]; norm_cast, fun a b e1 e2 e3 => ?_⟩
        by_cases e : a = i
        · subst e; exact h2 b (by omega) e3
        · exact g2 a b (by omega) e2 e3
      · right
        refine ⟨p, q, by omega, g2, g3, by rw [← g4]; norm_cast, g5, fun a b e1 e2 e3 e4 => ?_⟩
        by_cases e : a = i
        · subst e; exact h2 b (by omega) e3
        · exact g6 a b (by omega) e2 e3 e4
    · rw [h3]
      simp only
      right
      refine ⟨i, k, by omega, by omega, h2, ?_, h4, fun a b e1 e2 e3 e4 => ?_⟩
      · have : (i : Int) + 1 + (0 + ((k - (i + 1) : Nat) : Int)) = (k : Int) := by omega
        rw [this]
      · obtain ⟨rfl, e5⟩ : a = i ∧ b < k := by omega
        exact h5 b (by omega) e5

theorem has_l0 (l : List Int) (x : Int) (hb : l.length ≤ 9223372036854775807) (d : Nat) : ∀ (i k : Nat), i ≤ l.length → l.length - i = d → d < k →
    humpyardlaw21_TraceShares_1.l0 k l x (i : Int) = some ((l.drop i).contains x) := by
  induction d with
  | zero =>
    intro i k hi hd hk
    obtain ⟨k, rfl⟩ : ∃ m, k = m + 1 := ⟨k - 1, by omega⟩
    obtain rfl : i = l.length := by omega
    simp only [humpyardlaw21_TraceShares_1.l0]
    rw [if_neg (by omega), List.drop_length]
    rfl
  | succ d ih =>
    intro i k hi hd hk
    obtain ⟨k, rfl⟩ : ∃ m, k = m + 1 := ⟨k - 1, by omega⟩
    have hlt : i < l.length := by omega
    simp only [humpyardlaw21_TraceShares_1.l0]
    rw [if_pos (by omega), if_pos (by omega), rd_get hlt, List.drop_eq_getElem_cons hlt, List.contains_cons]
    by_cases h : l[i] = x
    · rw [if_pos h]; simp [h]
    · rw [if_neg h, wrap_nat hlt hb, ih (i + 1) k (by omega) (by omega) (by omega)]
      have : (x == l[i]) = false := by simp; exact fun e => h e.symm
      rw [this]; simp
theorem has_at (l : List Int) (x : Int) (hb : l.length ≤ 9223372036854775807) {k : Nat} (hk : l.length < k) : humpyardlaw21_TraceShares_1.f k l x = some (l.contains x) := by
  have := has_l0 l x hb l.length 0 k (by omega) (by omega) hk
  simpa [humpyardlaw21_TraceShares_1.f] using this

section
variable (l : List (List Int)) (p q x : Int) (is : Bool)
/-- No element of both of two lists tells against what Shared told. -/
def fine (i j : Nat) : Prop := ∀ y, y ∈ rd_L1 l (i : Int) → y ∈ rd_L1 l (j : Int) → is = true ∧ ¬ (i : Int) < p ∧ ¬ ((i : Int) = p ∧ (j : Int) < q) ∧ ¬ ((i : Int) = p ∧ (j : Int) = q ∧ y < x)

theorem bump0 {k n : Nat} {z : Int} {r : Bool} (h : humpyardlaw21_TraceShares.l0 k l true p q x is z = some r) (hk : k ≤ n) : humpyardlaw21_TraceShares.l0 n l true p q x is z = some r :=
  more (f := fun k => humpyardlaw21_TraceShares.l0 k l true p q x is z) (fun k => (humpyardlaw21_TraceShares.mono_l k).1 _ _ _ _ _ _ _) h hk
theorem bump1 {k n : Nat} {z y : Int} {r : Bool} (h : humpyardlaw21_TraceShares.l1 k l true p q x is z y = some r) (hk : k ≤ n) : humpyardlaw21_TraceShares.l1 n l true p q x is z y = some r :=
  more (f := fun k => humpyardlaw21_TraceShares.l1 k l true p q x is z y) (fun k => (humpyardlaw21_TraceShares.mono_l k).2.1 _ _ _ _ _ _ _ _) h hk
theorem bump2 {k n : Nat} {z y u : Int} {r : Bool} (h : humpyardlaw21_TraceShares.l2 k l true p q x is z y u = some r) (hk : k ≤ n) : humpyardlaw21_TraceShares.l2 n l true p q x is z y u = some r :=
  more (f := fun k => humpyardlaw21_TraceShares.l2 k l true p q x is z y u) (fun k => (humpyardlaw21_TraceShares.mono_l k).2.2 _ _ _ _ _ _ _ _ _) h hk

variable (hl : l.length ≤ 8) (hL : ∀ i : Nat, (rd_L1 l (i : Int)).length ≤ 100000000000000)
include hl hL
theorem l2_ex (i j : Nat) (hi : i < j) (hj : j < l.length) (hf : fine l p q x is i j) (hn : ∃ k, humpyardlaw21_TraceShares.l1 k l true p q x is (i : Int) ((j + 1 : Nat) : Int) = some true) (d : Nat) :
    ∀ t : Nat, t ≤ (rd_L1 l (i : Int)).length → (rd_L1 l (i : Int)).length - t = d → ∃ k, humpyardlaw21_TraceShares.l2 k l true p q x is (i : Int) (j : Int) (t : Int) = some true := by
  induction d with
  | zero =>
    intro t ht hd
    obtain ⟨k, hk⟩ := hn
    refine ⟨k + 1, ?_⟩
    simp only [humpyardlaw21_TraceShares.l2]
    rw [if_pos (by omega), if_pos (by omega), if_neg (by omega), wrap_nat hj (by omega)]
    exact hk
  | succ d ih =>
    intro t ht hd
    obtain ⟨k, hk⟩ := ih (t + 1) (by omega) (by omega)
    have hlt : t < (rd_L1 l (i : Int)).length := by omega
    have hLi := hL i
    have hLj := hL j
    refine ⟨max k ((rd_L1 l (j : Int)).length + 1) + 1, ?_⟩
    have hk2 := bump2 l p q x is hk (n := max k ((rd_L1 l (j : Int)).length + 1)) (by omega)
    simp only [humpyardlaw21_TraceShares.l2]
    rw [if_pos (by omega), if_pos (by omega), if_pos (by omega), if_pos (by omega), if_pos (by omega), if_pos (by omega), has_at _ _ (by omega) (by omega), rd_get hlt, wrap_nat hlt (by omega), hk2]
    simp only [Option.bind_some]
    by_cases hc : (rd_L1 l (j : Int)).contains (rd_L1 l (i : Int))[t] = true
    · rw [if_pos hc]
      obtain ⟨f1, f2, f3, f4⟩ := hf _ (List.getElem_mem hlt) (by simpa using hc)
      rw [if_pos f1, if_neg f2]
      by_cases e1 : (i : Int) = p
      · rw [if_pos e1, if_neg (fun h => f3 ⟨e1, h⟩)]
        by_cases e2 : (j : Int) = q
        · rw [if_pos e2, if_neg (fun h => f4 ⟨e1, e2, h⟩)]
        · rw [if_neg e2]
      · rw [if_neg e1]
    · rw [if_neg hc]
theorem l1_ex (i : Nat) (hi : i < l.length) (hf : ∀ j, i < j → j < l.length → fine l p q x is i j) (hn : ∃ k, humpyardlaw21_TraceShares.l0 k l true p q x is ((i + 1 : Nat) : Int) = some true) (d : Nat) :
    ∀ j : Nat, i < j → j ≤ l.length → l.length - j = d → ∃ k, humpyardlaw21_TraceShares.l1 k l true p q x is (i : Int) (j : Int) = some true := by
  induction d with
  | zero =>
    intro j h1 h2 hd
    obtain ⟨k, hk⟩ := hn
    refine ⟨k + 1, ?_⟩
    simp only [humpyardlaw21_TraceShares.l1]
    rw [if_neg (by omega), wrap_nat hi (by omega)]
    exact hk
  | succ d ih =>
    intro j h1 h2 hd
    obtain ⟨k, hk⟩ := l2_ex l p q x is hl hL i j h1 (by omega) (hf j h1 (by omega)) (ih (j + 1) (by omega) (by omega) (by omega)) _ 0 (by omega) rfl
    refine ⟨k + 1, ?_⟩
    simp only [humpyardlaw21_TraceShares.l1]
    rw [if_pos (by omega)]
    exact hk
theorem l0_ex (hf : ∀ i j, i < j → j < l.length → fine l p q x is i j)
    (hend : is = false ∧ p = 0 ∧ q = 0 ∧ x = 0 ∨ is = true ∧ 0 ≤ p ∧ p < q ∧ q < (l.length : Int) ∧ x ∈ rd_L1 l p ∧ x ∈ rd_L1 l q) (d : Nat) :
    ∀ i : Nat, i ≤ l.length → l.length - i = d → ∃ k, humpyardlaw21_TraceShares.l0 k l true p q x is (i : Int) = some true := by
  induction d with
  | zero =>
    intro i h2 hd
    rcases hend with ⟨rfl, rfl, rfl, rfl⟩ | ⟨rfl, e1, e2, e3, e4, e5⟩
    · refine ⟨1, ?_⟩
      simp only [humpyardlaw21_TraceShares.l0]
      rw [if_neg (by omega)]
      simp
    · obtain ⟨a, rfl⟩ : ∃ a : Nat, p = (a : Int) := ⟨p.toNat, by omega⟩
      obtain ⟨b, rfl⟩ : ∃ b : Nat, q = (b : Int) := ⟨q.toNat, by omega⟩
      have hLa := hL a
      have hLb := hL b
      refine ⟨max (rd_L1 l (a : Int)).length (rd_L1 l (b : Int)).length + 2, ?_⟩
      simp only [humpyardlaw21_TraceShares.l0]
      rw [if_neg (by omega), if_pos trivial, if_pos trivial, if_pos (by omega), if_pos (by omega), if_pos (by omega), if_pos (by omega), has_at _ _ (by omega) (by omega)]
      simp only [Option.bind_some]
      rw [if_pos (by simpa using e4), if_pos (by omega), has_at _ _ (by omega) (by omega)]
      simp only [Option.bind_some]
      rw [show (rd_L1 l (b : Int)).contains x = true by simpa using e5]
  | succ d ih =>
    intro i h2 hd
    obtain ⟨k, hk⟩ := l1_ex l p q x is hl hL i (by omega) (fun j h1 h3 => hf i j h1 h3) (ih (i + 1) (by omega) (by omega)) _ (i + 1) (by omega) (by omega) rfl
    refine ⟨k + 1, ?_⟩
    simp only [humpyardlaw21_TraceShares.l0]
    rw [if_pos (by omega), wrap_nat (show i < l.length by omega) (by omega)]
    exact hk
end

/-- For every list of lists, each short enough to be a slice. -/
theorem TraceShares (l0 : List (List Int)) (h0 : l0.length ≤ 9223372036854775807) (hs : ∀ y ∈ l0, y.length * 8 ≤ 140737488355328) : ∃ k, humpyardlaw21_TraceShares.f k l0 = some true := by
  have hm : mn (l0.length : Int) 8 = ((min l0.length 8 : Nat) : Int) := by unfold mn; split <;> omega
  obtain ⟨l, hl⟩ : ∃ l, l = l0.take (min l0.length 8) := ⟨_, rfl⟩
  have hlen : l.length ≤ 8 := by rw [hl, List.length_take]; omega
  have hmem : ∀ y ∈ l, y.length * 8 ≤ 140737488355328 := fun y hy => hs y (List.mem_of_mem_take (hl ▸ hy))
  have hL : ∀ i : Nat, (rd_L1 l (i : Int)).length ≤ 100000000000000 := by
    intro i
    by_cases hi : i < l.length
    · rw [rd_L1_nat l i hi]
      have := hmem _ (List.getElem_mem hi)
      omega
    · simp [rd_L1, List.getD_eq_getElem?_getD, show l.length ≤ i by omega]
  have hS : trace_Shared.f l = some (sharedAt l 0) := by
    unfold trace_Shared.f
    rw [if_pos ⟨by omega, hmem⟩]
  have key : ∃ k, humpyardlaw21_TraceShares.l0 k l true (sharedAt l 0).1 (sharedAt l 0).2.1 (sharedAt l 0).2.2.1 (sharedAt l 0).2.2.2 0 = some true := by
    have hsp := sharedAt_spec l (l.length - 0) 0 (by omega) rfl
    rw [List.drop_zero] at hsp
    rcases hsp with ⟨e, hn⟩ | ⟨p, q, _, g2, g3, e, g5, g6⟩
    · rw [show ((0 : Nat) : Int) = 0 from rfl] at e
      rw [e]
      refine l0_ex l 0 0 0 false hlen hL (fun i j h1 h2 y hy1 hy2 => ?_) (.inl ⟨rfl, rfl, rfl, rfl⟩) _ 0 (by omega) rfl
      have := hn i j (by omega) h1 h2
      have hy := common_mem.2 ⟨hy1, hy2⟩
      rw [this] at hy
      simp at hy
    · rw [show ((0 : Nat) : Int) = 0 from rfl] at e
      rw [e]
      have hmin := common_mem.1 (minOf_mem g5)
      refine l0_ex l (p : Int) (q : Int) _ true hlen hL (fun i j h1 h2 y hy1 hy2 => ?_) (.inr ⟨rfl, by omega, by omega, by omega, hmin.1, hmin.2⟩) _ 0 (by omega) rfl
      have hy := common_mem.2 ⟨hy1, hy2⟩
      have hno : ¬ (i < p ∨ i = p ∧ j < q) := by
        intro h
        rw [g6 i j (by omega) h1 h2 h] at hy
        simp at hy
      refine ⟨rfl, by omega, by omega, ?_⟩
      rintro ⟨e1, e2, e3⟩
      obtain rfl : i = p := by omega
      obtain rfl : j = q := by omega
      have := minOf_le hy
      omega
  obtain ⟨k, hk⟩ := key
  refine ⟨max k 4, ?_⟩
  unfold humpyardlaw21_TraceShares.f
  rw [awake_true (by omega), hm]
  simp only [Option.bind_some, Int.toNat_natCast]
  rw [if_pos (by omega), if_pos (by omega), ← hl, hS]
  simp only [Option.bind_some]
  exact bump0 l _ _ _ _ hk (by omega)
end Go.Proofs.YtffcdglhobdlhaaDoor.Pure
