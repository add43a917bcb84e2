/- TopicFilters in plain Lean: what a topic's text matches. -/
import Derived.Test.YtcioahjfmmhiiaaDoorPureM
namespace Go.Proofs.YtcioahjfmmhiiaaDoor.PA
open Go.RowKit Go.Proofs.YtcioahjfmmhiiaaDoorW.PrintWords Go.Proofs.YtcioahjfmmhiiaaDoorW.PrintLast Go.Proofs.YtcioahjfmmhiiaaDoorW.PrintMore

def plusB : ByteArray := ⟨#[43]⟩
def hashB : ByteArray := ⟨#[35]⟩
/-- Parts that are plain: neither a plus nor a hash. -/
def plain (x : ByteArray) : Prop := x.data.toList ≠ [43] ∧ x.data.toList ≠ [35]
theorem bytes_eq (a b : ByteArray) : a.data.toList = b.data.toList ↔ a = b := ⟨bs_inj, fun h => by rw [h]⟩
/-- Parts that fit are passed over. -/
theorem match_pass (n : List ByteArray) (last : Int) (g : List ByteArray) : ∀ (f : List ByteArray) (i : Nat), (∀ j (h : j < f.length), i + j < n.length ∧ (f[j] = plusB ∨ f[j] = n.getD (i + j) ByteArray.empty) ∧ (f[j].data.toList ≠ [35] ∨ ((i + j : Nat) : Int) ≠ last)) →
    matchFrom n last i (f ++ g) = matchFrom n last (i + f.length) g
  | [], i, _ => by simp
  | x :: f, i, h => by
    obtain ⟨h1, h2, h3⟩ := h 0 (by simp)
    simp only [Nat.add_zero, List.getElem_cons_zero] at h1 h2 h3
    have hs : partSays n last i x = none := by
      unfold partSays
      rw [if_neg (by rintro ⟨a, b⟩; rcases h3 with h3 | h3; exact h3 a; exact h3 b), if_neg (by omega), if_neg]
      rintro ⟨a, b⟩
      rcases h2 with h2 | h2
      · exact a (by rw [h2]; rfl)
      · exact b (by rw [h2])
    rw [List.cons_append, m_on hs, match_pass n last g f (i + 1) (fun j hj => by
      have := h (j + 1) (by simpa using hj)
      simp only [List.getElem_cons_succ] at this
      rw [show i + 1 + j = i + (j + 1) by omega]
      exact this)]
    rw [List.length_cons, show i + 1 + f.length = i + (f.length + 1) by omega]
/-- Plain parts fit just what they are. -/
theorem match_plain (n : List ByteArray) (last : Int) : ∀ (f : List ByteArray) (i : Nat), i ≤ n.length → (∀ x ∈ f, plain x) → matchFrom n last i f = decide (f = n.drop i)
  | [], i, hi, _ => by
    rw [matchFrom, Bool.eq_iff_iff, decide_eq_true_iff, decide_eq_true_iff]
    constructor
    · intro h; rw [List.drop_eq_nil_of_le (by omega)]
    · intro h
      have := congrArg List.length h
      simp at this
      omega
  | x :: f, i, hi, hp => by
    have hx := hp x (by simp)
    by_cases hlt : i < n.length
    · have hd : n.drop i = n[i] :: n.drop (i + 1) := List.drop_eq_getElem_cons hlt
      have hg : n.getD i ByteArray.empty = n[i] := by simp [List.getD_eq_getElem?_getD, hlt]
      by_cases he : x = n[i]
      · have hs : partSays n last i x = none := by
          unfold partSays
          rw [if_neg (fun a => hx.2 a.1), if_neg (by omega), if_neg (fun a => a.2 (by rw [hg, he]))]
        rw [m_on hs, match_plain n last f (i + 1) (by omega) (fun y hy => hp y (by simp [hy])), hd, Bool.eq_iff_iff, decide_eq_true_iff, decide_eq_true_iff, he]
        exact ⟨fun e => by rw [e], fun e => (List.cons.inj e).2⟩
      · have hs : partSays n last i x = some false := by
          unfold partSays
          rw [if_neg (fun a => hx.2 a.1), if_neg (by omega), if_pos ⟨hx.1, fun a => he (bs_inj (by rw [a, hg]))⟩]
        rw [m_stop hs, hd]
        symm
        rw [decide_eq_false_iff_not]
        intro h
        exact he (List.cons.inj h).1
    · have hs : partSays n last i x = some false := by
        unfold partSays
        rw [if_neg (fun a => hx.2 a.1), if_pos (by omega)]
      rw [m_stop hs, List.drop_eq_nil_of_le (by omega)]
      simp
theorem match_hash (n : List ByteArray) (i : Nat) (last : Int) (h : (i : Int) = last) : matchFrom n last i [hashB] = true :=
  m_stop (by unfold partSays; rw [if_pos ⟨rfl, h⟩]) []

/-! ### a topic's text -/
structure Good (m v k : ByteArray) : Prop where
  m : isName m.data.toList = true
  v : isName v.data.toList = true
  k : isKind k = true
def textOf (m v k : ByteArray) : ByteArray := bs (topicL m.data.toList v.data.toList k.data.toList)
def uB : ByteArray := bs [117, 97, 103, 118]
def wB : ByteArray := bs [118, 50]
def five (m v k : ByteArray) : List ByteArray := [uB, wB, m, v, k]
theorem text_parts {m v k : ByteArray} (h : Good m v k) : partsB (textOf m v k) = five m v k := topic_five h.m h.v h.k
theorem name_plain {x : ByteArray} (h : isName x.data.toList = true) : plain x := by
  constructor <;> (intro e; rw [e] at h; revert h; decide)
theorem kind_plain {x : ByteArray} (h : isKind x = true) : plain x := by
  constructor <;> (intro e; rcases isKind_cases h with c | c | c | c | c <;> (rw [c] at e; revert e; decide))
theorem five_plain {m v k : ByteArray} (h : Good m v k) : ∀ x ∈ five m v k, plain x := by
  intro x hx
  simp only [five, List.mem_cons, List.mem_nil_iff, or_false] at hx
  rcases hx with rfl | rfl | rfl | rfl | rfl
  · exact ⟨by decide, by decide⟩
  · exact ⟨by decide, by decide⟩
  · exact name_plain h.m
  · exact name_plain h.v
  · exact kind_plain h.k
theorem five_ns {m v k : ByteArray} (h : Good m v k) : ∀ x ∈ five m v k, (47 : UInt8) ∉ x.data.toList := by
  intro x hx
  simp only [five, List.mem_cons, List.mem_nil_iff, or_false] at hx
  rcases hx with rfl | rfl | rfl | rfl | rfl
  · decide
  · decide
  · exact isName_ns h.m
  · exact isName_ns h.v
  · exact isKind_ns h.k
/-- A text of parts without slashes. -/
theorem parts_join : ∀ (l : List (List UInt8)), l ≠ [] → (∀ x ∈ l, (47 : UInt8) ∉ x) → partsL (joinS l) = l
  | [], h, _ => absurd rfl h
  | [a], _, h => by rw [joinS, parts_end (h a (by simp))]
  | a :: b :: r, _, h => by
    rw [joinS, parts_slash _ (h a (by simp)), parts_join (b :: r) (by simp) (fun x hx => h x (by simp [hx]))]
    simp
def joinB (l : List ByteArray) : ByteArray := bs (joinS (l.map fun b => b.data.toList))
theorem parts_joinB (l : List ByteArray) (hn : l ≠ []) (h : ∀ x ∈ l, (47 : UInt8) ∉ x.data.toList) : partsB (joinB l) = l := by
  unfold partsB joinB
  rw [bs_list, parts_join _ (by simpa using hn) (by simpa using h), List.map_map]
  have : ((fun l : List UInt8 => (⟨l.toArray⟩ : ByteArray)) ∘ fun b : ByteArray => b.data.toList) = id := rfl
  rw [this, List.map_id]
theorem text_join (m v k : ByteArray) : textOf m v k = joinB (five m v k) := rfl
theorem text_inj {m v k m' v' k' : ByteArray} (h : Good m v k) (h' : Good m' v' k') : five m v k = five m' v' k' ↔ textOf m v k = textOf m' v' k' :=
  ⟨fun e => by rw [text_join, e, ← text_join], fun e => by rw [← text_parts h, e, text_parts h']⟩
theorem match_texts {m v k m' v' k' : ByteArray} (h : Good m v k) (h' : Good m' v' k') : matchB (textOf m v k) (textOf m' v' k') = decide (textOf m v k = textOf m' v' k') := by
  unfold matchB
  rw [text_parts h, text_parts h', match_plain _ _ _ 0 (by simp) (five_plain h), List.drop_zero, Bool.eq_iff_iff, decide_eq_true_iff, decide_eq_true_iff]
  exact text_inj h h'
theorem match_self {m v k : ByteArray} (h : Good m v k) : matchB (textOf m v k) (textOf m v k) = true := by
  rw [match_texts h h]
  simp
/-- A text and one part more. -/
def more (x p : ByteArray) : ByteArray := bs (x.data.toList ++ 47 :: p.data.toList)
theorem more_parts {m v k p : ByteArray} (h : Good m v k) (hp : (47 : UInt8) ∉ p.data.toList) : partsB (more (textOf m v k) p) = five m v k ++ [p] := by
  have : more (textOf m v k) p = joinB (five m v k ++ [p]) := by
    apply bs_inj
    show topicL m.data.toList v.data.toList k.data.toList ++ 47 :: p.data.toList = _
    simp [joinB, five, joinS, bs_list, topicL, headB, uB, wB]
  rw [this, parts_joinB _ (by simp) (by
    intro x hx
    rcases List.mem_append.1 hx with hx | hx
    · exact five_ns h x hx
    · obtain rfl := List.mem_singleton.1 hx
      exact hp)]
def yB : ByteArray := ⟨#[121]⟩
theorem match_more1 {m v k : ByteArray} (h : Good m v k) : matchB (textOf m v k) (more (textOf m v k) yB) = false := by
  unfold matchB
  rw [text_parts h, more_parts h (by decide), match_plain _ _ _ 0 (by simp) (five_plain h), List.drop_zero, decide_eq_false_iff_not]
  intro e
  have := congrArg List.length e
  simp [five] at this
theorem match_more2 {m v k : ByteArray} (h : Good m v k) : matchB (more (textOf m v k) yB) (textOf m v k) = false := by
  unfold matchB
  rw [text_parts h, more_parts h (by decide), match_plain _ _ _ 0 (by simp) (by
    intro x hx
    rcases List.mem_append.1 hx with hx | hx
    · exact five_plain h x hx
    · obtain rfl := List.mem_singleton.1 hx
      exact ⟨by decide, by decide⟩), List.drop_zero, decide_eq_false_iff_not]
  intro e
  have := congrArg List.length e
  simp [five] at this
theorem pass_self {m v k : ByteArray} (h : Good m v k) (last : Int) (j : Nat) (hj : j < (five m v k).length) : 0 + j < (five m v k).length ∧ ((five m v k)[j] = plusB ∨ (five m v k)[j] = (five m v k).getD (0 + j) ByteArray.empty) ∧ ((five m v k)[j].data.toList ≠ [35] ∨ ((0 + j : Nat) : Int) ≠ last) := by
  refine ⟨by omega, .inr ?_, .inl (five_plain h _ (List.getElem_mem hj)).2⟩
  rw [Nat.zero_add, List.getD_eq_getElem?_getD, List.getElem?_eq_getElem hj]
  rfl
theorem match_more3 {m v k : ByteArray} (h : Good m v k) : matchB (more (textOf m v k) hashB) (textOf m v k) = true := by
  unfold matchB
  rw [text_parts h, more_parts h (by decide), match_pass _ _ _ _ 0 (fun j hj => pass_self h _ j hj)]
  exact match_hash _ _ _ (by simp [five])
theorem match_all (x : ByteArray) : matchB hashB x = true := by
  unfold matchB
  have : partsB hashB = [hashB] := by decide +kernel
  rw [this]
  exact match_hash _ _ _ rfl
/-- The parts, one of them a plus. -/
def plusAt (l : List ByteArray) (k : Nat) : List ByteArray := l.set k plusB
def hashAt (l : List ByteArray) (k : Nat) : List ByteArray := l.take k ++ [hashB]
theorem match_plus {m v k : ByteArray} (h : Good m v k) (q : Nat) : matchB (joinB (plusAt (five m v k) q)) (textOf m v k) = true := by
  have hl : (five m v k).length = 5 := rfl
  unfold matchB
  rw [text_parts h, parts_joinB (plusAt (five m v k) q) (by simp [plusAt, five]) (by
    intro x hx
    rcases List.mem_or_eq_of_mem_set hx with hx | rfl
    · exact five_ns h x hx
    · decide)]
  have := match_pass (five m v k) ((plusAt (five m v k) q).length - 1 : Int) [] (plusAt (five m v k) q) 0 (fun j hj => by
    have hj5 : j < (five m v k).length := by simpa [plusAt] using hj
    obtain ⟨p1, p2, p3⟩ := pass_self h ((plusAt (five m v k) q).length - 1 : Int) j hj5
    by_cases e : q = j
    · subst e
      simp only [plusAt, List.getElem_set_self]
      exact ⟨p1, .inl trivial, .inl (by decide)⟩
    · simp only [plusAt, List.getElem_set_ne e] at p3 ⊢
      exact ⟨p1, p2, p3⟩)
  rw [List.append_nil] at this
  rw [this, matchFrom]
  simp [plusAt]
theorem match_cut {m v k : ByteArray} (h : Good m v k) (q : Nat) (hq : q < 5) : matchB (joinB (hashAt (five m v k) q)) (textOf m v k) = true := by
  have hl : (five m v k).length = 5 := rfl
  unfold matchB
  rw [text_parts h, parts_joinB (hashAt (five m v k) q) (by simp [hashAt]) (by
    intro x hx
    rcases List.mem_append.1 hx with hx | hx
    · exact five_ns h x (List.mem_of_mem_take hx)
    · obtain rfl := List.mem_singleton.1 hx
      decide)]
  have ht : ((five m v k).take q).length = q := by rw [List.length_take, hl]; omega
  unfold hashAt
  rw [match_pass _ _ _ _ 0 (fun j hj => by
    rw [List.length_take, hl] at hj
    obtain ⟨p1, p2, p3⟩ := pass_self h ((((five m v k).take q ++ [hashB]).length : Int) - 1) j (by omega)
    rw [List.getElem_take]
    exact ⟨p1, p2, p3⟩)]
  exact match_hash _ _ _ (by simp [ht])
end Go.Proofs.YtcioahjfmmhiiaaDoor.PA
