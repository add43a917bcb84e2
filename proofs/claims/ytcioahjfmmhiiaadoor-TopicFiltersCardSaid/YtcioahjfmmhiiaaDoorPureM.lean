/- Plain laws of topics: chapter 7's examples, what Match tells. -/
import Derived.Test.YtcioahjfmmhiiaaDoorPureT
import Derived.Test.YtcioahjfmmhiiaaDoorPAf7
namespace Go.Proofs.YtcioahjfmmhiiaaDoor.PA
open Go.RowKit Go.Proofs.YtcioahjfmmhiiaaDoorW.PrintWords Go.Proofs.YtcioahjfmmhiiaaDoorW.PrintLast Go.Proofs.YtcioahjfmmhiiaaDoorW.PrintMore

theorem printOf_good {m v x : ByteArray} (h1 : isName m.data.toList = true) (h2 : isName v.data.toList = true) (h3 : isKind x = true) : printOf m v x = (bs (topicL m.data.toList v.data.toList x.data.toList), 0) := if_pos ⟨h1, h2, h3⟩
theorem awake_f (k : Nat) (hk : 20 ≤ k) : humpyardlaw07_awake.f k = some true := by
  have n1 : isName (⟨#[109]⟩ : ByteArray).data.toList = true := by decide
  have n2 : isName (⟨#[118, 49]⟩ : ByteArray).data.toList = true := by decide
  have n3 : isKind (⟨#[115, 116, 97, 116, 101]⟩ : ByteArray) = true := by decide
  unfold humpyardlaw07_awake.f
  rw [print_f k hk, printOf_good n1 n2 n3]
  simp only [Option.bind_some, parse_good n1 n2 n3]
  have hp : topic_Parse.f (⟨#[117, 97, 103, 118, 47, 118, 50, 47, 109, 47, 118, 49, 47, 120]⟩ : ByteArray) = some (⟨#[]⟩, ⟨#[]⟩, ⟨#[]⟩, 70) := by
    rw [parse_f _ (by decide)]
    rfl
  have hm1 : topic_Match.f (⟨#[117, 97, 103, 118, 47, 118, 50, 47, 43, 47, 118, 49, 47, 35]⟩ : ByteArray) (bs (topicL (⟨#[109]⟩ : ByteArray).data.toList (⟨#[118, 49]⟩ : ByteArray).data.toList (⟨#[115, 116, 97, 116, 101]⟩ : ByteArray).data.toList)) = some true := by decide +kernel
  have hm2 : topic_Match.f (⟨#[117, 97, 103, 118, 47, 43]⟩ : ByteArray) (bs (topicL (⟨#[109]⟩ : ByteArray).data.toList (⟨#[118, 49]⟩ : ByteArray).data.toList (⟨#[115, 116, 97, 116, 101]⟩ : ByteArray).data.toList)) = some false := by decide +kernel
  have hn : topic_Name.f (⟨#[118, 49]⟩ : ByteArray) = some true := by decide +kernel
  rw [hp, hm1, hm2, hn]
  simp [ByteArray.toList_eq, bs, topicL, headB]
theorem fit_bs (b : ByteArray) : isName (bs (fitL b.data.toList)).data.toList = true := fit_name _
theorem rd_at (l : List ByteArray) (i : Nat) (h : i < l.length) : rdOf ByteArray.empty l (i : Int) = l[i] := by
  simp [rdOf, List.getD_eq_getElem?_getD, h]
theorem wrap_succ (i : Nat) (h : i < 1000) : wrap64 ((i : Int) + 1) = ((i + 1 : Nat) : Int) := by unfold wrap64; omega
theorem extract_size_le (s : ByteArray) (i j : Nat) : (s.extract i j).size ≤ s.size := by
  rw [ByteArray.size_extract]
  omega
/-! ### Match -/
theorem pieces_count : ∀ (l acc : List UInt8), (pieces acc l).length = l.count 47 + 1
  | [], acc => by simp [pieces]
  | c :: r, acc => by
    unfold pieces
    by_cases h : c = 47
    · rw [if_pos h, List.length_cons, pieces_count r [], h]
      simp
    · rw [if_neg h, pieces_count r _, List.count_cons_of_ne (by simpa using h)]
theorem partsB_count (s : ByteArray) : ((Lib.countByte s.data.toList 47 : Nat) : Int) = ((partsB s).length : Int) - 1 := by
  unfold partsB partsL Lib.countByte
  rw [List.length_map, pieces_count]
  omega
def matchB (f n : ByteArray) : Bool := matchFrom (partsB n) ((partsB f).length - 1 : Int) 0 (partsB f)
theorem match_f (f n : ByteArray) (hf : f.size ≤ 1000000000) (hn : n.size ≤ 1000000000) : topic_Match.f f n = some (matchB f n) := by
  unfold topic_Match.f matchB
  have hl := partsB_len n
  rw [if_pos ⟨by omega, by omega, by omega⟩, partsB_count]

theorem topic_five {m v k : ByteArray} (h1 : isName m.data.toList = true) (h2 : isName v.data.toList = true) (h3 : isKind k = true) :
    partsB (bs (topicL m.data.toList v.data.toList k.data.toList)) = [bs [117, 97, 103, 118], bs [118, 50], m, v, k] := by
  have e : topicL m.data.toList v.data.toList k.data.toList = [117, 97, 103, 118] ++ 47 :: ([118, 50] ++ 47 :: (m.data.toList ++ 47 :: (v.data.toList ++ 47 :: k.data.toList))) := rfl
  unfold partsB
  rw [bs_list, e, parts_slash _ (by decide), parts_slash _ (by decide), parts_slash _ (isName_ns h1), parts_slash _ (isName_ns h2), parts_end (isKind_ns h3)]
  rfl
end Go.Proofs.YtcioahjfmmhiiaaDoor.PA
