/- Plain laws of topics' texts: print, parse, parts. -/
import Derived.Test.YtcioahjfmmhiiaaDoorEParse
import Derived.Test.YtcioahjfmmhiiaaDoorEMatch
import Derived.Test.YtcioahjfmmhiiaaDoorEFit
import Derived.Test.YtcioahjfmmhiiaaDoorPAf11
import Derived.Test.YtcioahjfmmhiiaaDoorPAf10
import Derived.Test.YtcioahjfmmhiiaaDoorPAf8
namespace Go.Proofs.YtcioahjfmmhiiaaDoor.PA
open Go.RowKit Go.Proofs.YtcioahjfmmhiiaaDoorW.PrintWords Go.Proofs.YtcioahjfmmhiiaaDoorW.PrintLast Go.Proofs.YtcioahjfmmhiiaaDoorW.PrintMore

theorem kind_ge (x : ByteArray) : ∀ k, 20 ≤ k → topic_kind.f k x = some (isKind x) := by
  intro k hk
  obtain ⟨d, rfl⟩ : ∃ d, k = 20 + d := ⟨k - 20, by omega⟩
  clear hk
  induction d with
  | zero => exact kind_f x
  | succ d ih => exact topic_kind.mono x (20 + d) _ ih

/-- A text of bytes. -/
def bs (l : List UInt8) : ByteArray := ⟨l.toArray⟩
theorem bs_list (l : List UInt8) : (bs l).data.toList = l := rfl
theorem bs_of (b : ByteArray) : bs b.data.toList = b := rfl
theorem bs_size (l : List UInt8) : (bs l).size = l.length := rfl
theorem bs_inj {a b : ByteArray} (h : a.data.toList = b.data.toList) : a = b := by rw [← bs_of a, ← bs_of b, h]

def topicL (m v k : List UInt8) : List UInt8 := headB ++ (m ++ 47 :: (v ++ 47 :: k))
def printOf (m v k : ByteArray) : ByteArray × Int := if isName m.data.toList = true ∧ isName v.data.toList = true ∧ isKind k = true then (bs (topicL m.data.toList v.data.toList k.data.toList), 0) else (⟨#[]⟩, 70)

theorem isName_len {l : List UInt8} (h : isName l = true) : l.length ≤ 16 := by
  unfold isName at h
  simp at h
  exact h.2
theorem isName_ns {l : List UInt8} (h : isName l = true) : (47 : UInt8) ∉ l := by
  unfold isName at h
  simp only [Bool.and_eq_true, List.all_eq_true] at h
  intro hm
  exact absurd (h.1.1 _ hm) (by decide)
theorem isName_ne {l : List UInt8} (h : isName l = true) : l ≠ [] := by
  unfold isName at h
  simp at h
  exact h.1.2
theorem isKind_cases {x : ByteArray} (h : isKind x = true) : x.data.toList = [111, 114, 100, 101, 114] ∨ x.data.toList = [105, 110, 115, 116, 97, 110, 116, 65, 99, 116, 105, 111, 110, 115] ∨ x.data.toList = [115, 116, 97, 116, 101] ∨ x.data.toList = [99, 111, 110, 110, 101, 99, 116, 105, 111, 110] ∨ x.data.toList = [118, 105, 115, 117, 97, 108, 105, 122, 97, 116, 105, 111, 110] := by
  unfold isKind at h
  simp only [Bool.or_eq_true, beq_iff_eq] at h
  rcases h with (((h | h) | h) | h) | h
  · exact .inl h
  · exact .inr (.inl h)
  · exact .inr (.inr (.inl h))
  · exact .inr (.inr (.inr (.inl h)))
  · exact .inr (.inr (.inr (.inr h)))
theorem isKind_len {x : ByteArray} (h : isKind x = true) : x.data.toList.length ≤ 14 := by
  rcases isKind_cases h with h | h | h | h | h <;> (rw [h]; decide)
theorem isKind_ns {x : ByteArray} (h : isKind x = true) : (47 : UInt8) ∉ x.data.toList := by
  rcases isKind_cases h with h | h | h | h | h <;> (rw [h]; decide)

theorem print_f (k : Nat) (hk : 20 ≤ k) (m v x : ByteArray) : topic_Print.f k m v x = some (printOf m v x) := by
  unfold topic_Print.f topic_Name.f printOf
  simp only [Option.bind_some, kind_ge x k hk]
  by_cases h1 : isName m.data.toList = true
  · by_cases h2 : isName v.data.toList = true
    · by_cases h3 : isKind x = true
      · have l1 := isName_len h1
        have l2 := isName_len h2
        have l3 := isKind_len h3
        have hj : joinL [m, v, x] ⟨#[47]⟩ = m.data.toList ++ 47 :: (v.data.toList ++ 47 :: x.data.toList) := by
          simp [joinL, Lib.join, List.intercalate, List.intersperse]
        have hjl : (joinL [m, v, x] ⟨#[47]⟩).length ≤ 48 := by rw [hj]; simp at l1 l2 l3 ⊢; omega
        rw [if_pos h1, if_pos h2, if_pos h3, if_pos ⟨h1, h2, h3⟩]
        unfold strings_Join.f
        rw [if_pos ⟨by simp, by omega⟩]
        simp only [Option.bind_some]
        rw [if_pos (by show 8 + (joinL [m, v, x] ⟨#[47]⟩).length ≤ _; omega), hj]
        congr 2
      · rw [if_pos h1, if_pos h2, if_neg h3, if_neg (by rintro ⟨_, _, h⟩; exact h3 h)]
    · rw [if_pos h1, if_neg h2, if_neg (by rintro ⟨_, h, _⟩; exact h2 h)]
  · rw [if_neg h1, if_neg (by rintro ⟨h, _⟩; exact h1 h)]

/-! ### parts -/
theorem pieces_ne (l acc : List UInt8) : pieces acc l ≠ [] := by
  induction l generalizing acc with
  | nil => simp [pieces]
  | cons c r ih => unfold pieces; split <;> simp [ih]
theorem pieces_slash (b : List UInt8) : ∀ (a acc : List UInt8), (47 : UInt8) ∉ a → pieces acc (a ++ 47 :: b) = (acc ++ a) :: partsL b
  | [], acc, _ => by simp [pieces, partsL]
  | c :: a, acc, h => by
    have hc : c ≠ 47 := fun e => h (by simp [e])
    have ha : (47 : UInt8) ∉ a := fun e => h (by simp [e])
    rw [List.cons_append, pieces, if_neg hc, pieces_slash b a _ ha]
    simp
theorem pieces_end : ∀ (a acc : List UInt8), (47 : UInt8) ∉ a → pieces acc a = [acc ++ a]
  | [], acc, _ => by simp [pieces]
  | c :: a, acc, h => by
    have hc : c ≠ 47 := fun e => h (by simp [e])
    have ha : (47 : UInt8) ∉ a := fun e => h (by simp [e])
    rw [pieces, if_neg hc, pieces_end a _ ha]
    simp
theorem parts_slash {a : List UInt8} (b : List UInt8) (h : (47 : UInt8) ∉ a) : partsL (a ++ 47 :: b) = a :: partsL b := by
  have := pieces_slash b a [] h
  simpa [partsL] using this
theorem parts_end {a : List UInt8} (h : (47 : UInt8) ∉ a) : partsL a = [a] := by
  have := pieces_end a [] h
  simpa [partsL] using this
/-- The parts, put together again. -/
def joinS : List (List UInt8) → List UInt8
  | [] => []
  | [a] => a
  | a :: r => a ++ 47 :: joinS r
theorem join_pieces : ∀ (l acc : List UInt8), joinS (pieces acc l) = acc ++ l
  | [], acc => by simp [pieces, joinS]
  | c :: r, acc => by
    unfold pieces
    by_cases h : c = 47
    · rw [if_pos h]
      have hj := join_pieces r []
      cases hp : pieces [] r with
      | nil => exact absurd hp (pieces_ne _ _)
      | cons y q =>
        rw [hp] at hj
        rw [joinS, hj, h]
        · simp
        · simp
    · rw [if_neg h, join_pieces r]
      simp
theorem join_parts (l : List UInt8) : joinS (partsL l) = l := by simpa [partsL] using join_pieces l []
theorem behind_size (z : ByteArray) : (behindOf z).size ≤ z.size := by
  show (Lib.trimPrefix z.data.toList headB).length ≤ z.data.toList.length
  unfold Lib.trimPrefix
  split
  · simp
  · omega

/-! ### Parse -/
theorem topic_parts {m v k : ByteArray} (h1 : isName m.data.toList = true) (h2 : isName v.data.toList = true) (h3 : isKind k = true) :
    Lib.hasPrefix (topicL m.data.toList v.data.toList k.data.toList) headB = true ∧ partsB (behindOf (bs (topicL m.data.toList v.data.toList k.data.toList))) = [m, v, k] ∧ (topicL m.data.toList v.data.toList k.data.toList).length ≤ 56 := by
  have hp : Lib.hasPrefix (topicL m.data.toList v.data.toList k.data.toList) headB = true := by
    unfold Lib.hasPrefix topicL
    rw [List.isPrefixOf_iff_prefix]
    exact List.prefix_append _ _
  have l1 := isName_len h1
  have l2 := isName_len h2
  have l3 := isKind_len h3
  refine ⟨hp, ?_, ?_⟩
  · have hb : (behindOf (bs (topicL m.data.toList v.data.toList k.data.toList))).data.toList = m.data.toList ++ 47 :: (v.data.toList ++ 47 :: k.data.toList) := by
      show Lib.trimPrefix (topicL m.data.toList v.data.toList k.data.toList) headB = _
      unfold Lib.trimPrefix
      rw [if_pos hp]
      rfl
    unfold partsB
    rw [hb, parts_slash _ (isName_ns h1), parts_slash _ (isName_ns h2), parts_end (isKind_ns h3)]
    rfl
  · unfold topicL headB
    simp at l1 l2 l3 ⊢
    omega
theorem parse_good {m v k : ByteArray} (h1 : isName m.data.toList = true) (h2 : isName v.data.toList = true) (h3 : isKind k = true) :
    topic_Parse.f (bs (topicL m.data.toList v.data.toList k.data.toList)) = some (m, v, k, 0) := by
  obtain ⟨hp, hq, hl⟩ := topic_parts h1 h2 h3
  unfold topic_Parse.f
  have hbs := behind_size (bs (topicL m.data.toList v.data.toList k.data.toList))
  rw [bs_size] at hbs
  rw [if_pos ⟨by omega, by rw [hq]; simp⟩, hq, bs_list, hp, parseOf_good isKind m v k ⟨h1, h2, h3⟩]
theorem parse_f (z : ByteArray) (h : z.size ≤ 1000000000) : topic_Parse.f z = some (parseOf isKind (Lib.hasPrefix z.data.toList headB) (partsB (behindOf z))) := by
  unfold topic_Parse.f
  have h1 := behind_size z
  have h2 := partsB_len (behindOf z)
  rw [if_pos ⟨by omega, by omega⟩]
/-- What Parse tells: the topic whose text it is, or none. -/
theorem parse_says (z : ByteArray) : (∃ m v k, isName m.data.toList = true ∧ isName v.data.toList = true ∧ isKind k = true ∧ z = bs (topicL m.data.toList v.data.toList k.data.toList) ∧ parseOf isKind (Lib.hasPrefix z.data.toList headB) (partsB (behindOf z)) = (m, v, k, 0)) ∨
    (parseOf isKind (Lib.hasPrefix z.data.toList headB) (partsB (behindOf z)) = (⟨#[]⟩, ⟨#[]⟩, ⟨#[]⟩, 70) ∧ ∀ m v k : ByteArray, isName m.data.toList = true → isName v.data.toList = true → isKind k = true → z ≠ bs (topicL m.data.toList v.data.toList k.data.toList)) := by
  by_cases hg : ∃ m v k : ByteArray, isName m.data.toList = true ∧ isName v.data.toList = true ∧ isKind k = true ∧ z = bs (topicL m.data.toList v.data.toList k.data.toList)
  · obtain ⟨m, v, k, h1, h2, h3, rfl⟩ := hg
    obtain ⟨hp, hq, _⟩ := topic_parts h1 h2 h3
    exact .inl ⟨m, v, k, h1, h2, h3, rfl, by rw [hq, bs_list, hp, parseOf_good isKind m v k ⟨h1, h2, h3⟩]⟩
  · refine .inr ⟨?_, fun m v k h1 h2 h3 e => hg ⟨m, v, k, h1, h2, h3, e⟩⟩
    cases hpre : Lib.hasPrefix z.data.toList headB with
    | false => rfl
    | true =>
      by_cases h3 : (partsB (behindOf z)).length = 3
      · obtain ⟨m, v, k, hps⟩ : ∃ m v k, partsB (behindOf z) = [m, v, k] := by
          match hq : partsB (behindOf z), h3 with
          | [m, v, k], _ => exact ⟨m, v, k, rfl⟩
        rw [hps]
        refine parseOf_bad isKind m v k fun ⟨h1, h2, h3⟩ => hg ⟨m, v, k, h1, h2, h3, ?_⟩
        have hl : partsL (behindOf z).data.toList = [m.data.toList, v.data.toList, k.data.toList] := by
          have := congrArg (List.map fun b : ByteArray => b.data.toList) hps
          unfold partsB at this
          rw [List.map_map] at this
          have hid : ((fun b : ByteArray => b.data.toList) ∘ fun l : List UInt8 => (⟨l.toArray⟩ : ByteArray)) = id := rfl
          rw [hid, List.map_id] at this
          exact this
        have hj := join_parts (behindOf z).data.toList
        rw [hl] at hj
        have hb : z.data.toList = headB ++ (behindOf z).data.toList := by
          show _ = headB ++ Lib.trimPrefix z.data.toList headB
          unfold Lib.trimPrefix
          rw [if_pos hpre]
          unfold Lib.hasPrefix at hpre
          rw [List.isPrefixOf_iff_prefix] at hpre
          obtain ⟨t, ht⟩ := hpre
          rw [← ht]
          simp
        apply bs_inj
        rw [bs_list, hb, ← hj]
        rfl
      · exact parseOf_len isKind _ h3

/-! ### Topic: of raw texts -/
theorem fit_mem (x : UInt8) : fitB x ∈ fitTab := by
  unfold fitB
  have h : x.toNat % 20 < fitTab.length := Nat.mod_lt _ (by decide)
  rw [List.getD_eq_getElem?_getD, List.getElem?_eq_getElem h]
  exact List.getElem_mem h
theorem fit_name (l : List UInt8) : isName (fitL l) = true := by
  unfold isName fitL
  simp only [Bool.and_eq_true, List.all_eq_true, decide_eq_true_eq]
  refine ⟨⟨fun c hc => ?_, by simp⟩, by simp; omega⟩
  have hall : ∀ y ∈ fitTab, may.contains y = true := by decide
  rcases List.mem_cons.1 hc with rfl | hc
  · decide
  · obtain ⟨x, _, rfl⟩ := List.mem_map.1 hc
    exact hall _ (fit_mem x)
theorem pick_f (a n : Int) (ha : -9223372036854775808 ≤ a ∧ a ≤ 9223372036854775807) (hn : 0 < n) (hn2 : n ≤ 9223372036854775807) : ∃ r, humpyardlaw07_pick.f a n = some r ∧ 0 ≤ r ∧ r < n := by
  unfold humpyardlaw07_pick.f
  have hn0 : ¬ n = 0 := by omega
  by_cases h : a < 0
  · have e1 : wrap64 (a + 1) = a + 1 := by unfold wrap64; omega
    have e2 : wrap64 (-(a + 1)) = -(a + 1) := by unfold wrap64; omega
    rw [if_pos h, if_neg hn0, e1, e2]
    refine ⟨_, rfl, ?_⟩
    rw [Int.tmod_eq_emod_of_nonneg (by omega)]
    exact ⟨Int.emod_nonneg _ hn0, Int.emod_lt_of_pos _ hn⟩
  · rw [if_neg h, if_neg hn0]
    refine ⟨_, rfl, ?_⟩
    rw [Int.tmod_eq_emod_of_nonneg (by omega)]
    exact ⟨Int.emod_nonneg _ hn0, Int.emod_lt_of_pos _ hn⟩
def kindsB : List ByteArray := [⟨#[111, 114, 100, 101, 114]⟩, ⟨#[105, 110, 115, 116, 97, 110, 116, 65, 99, 116, 105, 111, 110, 115]⟩, ⟨#[115, 116, 97, 116, 101]⟩, ⟨#[99, 111, 110, 110, 101, 99, 116, 105, 111, 110]⟩, ⟨#[118, 105, 115, 117, 97, 108, 105, 122, 97, 116, 105, 111, 110]⟩]
theorem topic_f (a b : ByteArray) (c : Int) (hc : -9223372036854775808 ≤ c ∧ c ≤ 9223372036854775807) : ∃ k, isKind k = true ∧ humpyardlaw07_Topic.f a b c = some (bs (fitL a.data.toList), bs (fitL b.data.toList), k) := by
  obtain ⟨r, hr, h0, h5⟩ := pick_f c 5 hc (by decide) (by decide)
  unfold humpyardlaw07_Topic.f humpyardlaw07_Fit.f
  simp only [Option.bind_some, hr]
  rw [if_pos h0, if_pos (by simpa using h5)]
  refine ⟨_, ?_, rfl⟩
  have : r = 0 ∨ r = 1 ∨ r = 2 ∨ r = 3 ∨ r = 4 := by omega
  rcases this with rfl | rfl | rfl | rfl | rfl <;> decide
end Go.Proofs.YtcioahjfmmhiiaaDoor.PA
