/- TopicBack in plain Lean: Parse undoes Print. -/
import Derived.Test.YtcioahjfmmhiiaaDoorPureT
import Derived.Test.YtcioahjfmmhiiaaDoorPAf4
import Derived.Test.YtcioahjfmmhiiaaDoorPAf7
namespace Go.Proofs.YtcioahjfmmhiiaaDoor.PA
open Go.RowKit Go.Proofs.YtcioahjfmmhiiaaDoorW.PrintWords Go.Proofs.YtcioahjfmmhiiaaDoorW.PrintLast Go.Proofs.YtcioahjfmmhiiaaDoorW.PrintMore

theorem printOf_good {m v x : ByteArray} (h1 : isName m.data.toList = true) (h2 : isName v.data.toList = true) (h3 : isKind x = true) : printOf m v x = (bs (topicL m.data.toList v.data.toList x.data.toList), 0) := if_pos ⟨h1, h2, h3⟩
theorem awake_f (k : Nat) (hk : 20 ≤ k) : humpyardlaw07_awake.f k = some true := by
  have n1 : isName (⟨#[109]⟩ : ByteArray).data.toList = true := by decide
  have n2 : isName (⟨#[118, 49]⟩ : ByteArray).data.toList = true := by decide
  have n3 : isKind (⟨#[115, 116, 97, 116, 101]⟩ : ByteArray) = true := by decide
  unfold humpyardlaw07_awake.f
  rw [print_f k hk, printOf_good n1 n2 n3]
  simp only [Option.bind_some, parse_good n1 n2 n3]
  have hp : topic_Parse.f (⟨#[117, 97, 103, 118, 47, 118, 50, 47, 109, 47, 118, 49, 47, 120]⟩ : ByteArray) = some (⟨#[]⟩, ⟨#[]⟩, ⟨#[]⟩, 70) := by
    rw [parse_f _ (by decide)]
    rfl
  have hm1 : topic_Match.f (⟨#[117, 97, 103, 118, 47, 118, 50, 47, 43, 47, 118, 49, 47, 35]⟩ : ByteArray) (bs (topicL (⟨#[109]⟩ : ByteArray).data.toList (⟨#[118, 49]⟩ : ByteArray).data.toList (⟨#[115, 116, 97, 116, 101]⟩ : ByteArray).data.toList)) = some true := by decide +kernel
  have hm2 : topic_Match.f (⟨#[117, 97, 103, 118, 47, 43]⟩ : ByteArray) (bs (topicL (⟨#[109]⟩ : ByteArray).data.toList (⟨#[118, 49]⟩ : ByteArray).data.toList (⟨#[115, 116, 97, 116, 101]⟩ : ByteArray).data.toList)) = some false := by decide +kernel
  have hn : topic_Name.f (⟨#[118, 49]⟩ : ByteArray) = some true := by decide +kernel
  rw [hp, hm1, hm2, hn]
  simp [ByteArray.toList_eq, bs, topicL, headB]
theorem fit_bs (b : ByteArray) : isName (bs (fitL b.data.toList)).data.toList = true := fit_name _
theorem beq_refl_list (l : List UInt8) : (l == l) = true := by simp
theorem TopicBack30 (a0 a1 a2 a3 a4 : ByteArray) (c : Int) (hc : -9223372036854775808 ≤ c ∧ c ≤ 9223372036854775807) : humpyardlaw07_TopicBack.f 30 a0 a1 a2 a3 a4 c = some true := by
  obtain ⟨k, hk, ht⟩ := topic_f a3 a4 c hc
  have hj : humpyardlaw07_TopicBack.j0 30 true false a0 a1 a2 = some true := by
    rw [humpyardlaw07_TopicBack.j0, if_neg (by simp), print_f 29 (by decide)]
    by_cases hg : isName a0.data.toList = true ∧ isName a1.data.toList = true ∧ isKind a2 = true
    · rw [printOf_good hg.1 hg.2.1 hg.2.2]
      simp [parse_good hg.1 hg.2.1 hg.2.2]
    · have hp : printOf a0 a1 a2 = (⟨#[]⟩, 70) := if_neg hg
      have hq : topic_Parse.f (⟨#[]⟩ : ByteArray) = some (⟨#[]⟩, ⟨#[]⟩, ⟨#[]⟩, 70) := by
        rw [parse_f _ (by decide)]
        rfl
      rw [hp]
      simp [hq, ByteArray.toList_eq]
  unfold humpyardlaw07_TopicBack.f
  rw [awake_f 30 (by decide), ht]
  simp only [Option.bind_some]
  rw [print_f 30 (by decide), printOf_good (fit_bs a3) (fit_bs a4) hk]
  simp only [Option.bind_some, parse_good (fit_bs a3) (fit_bs a4) hk, beq_refl_list]
  have hn : topic_Name.f (bs (fitL a3.data.toList)) = some true := by
    unfold topic_Name.f
    rw [fit_bs]
  simp only [hn, Option.bind_some]
  simpa using hj
theorem TopicBack (a0 a1 a2 a3 a4 : ByteArray) (c : Int) (hc : -9223372036854775808 ≤ c ∧ c ≤ 9223372036854775807) : ∃ k, humpyardlaw07_TopicBack.f k a0 a1 a2 a3 a4 c = some true := ⟨30, TopicBack30 a0 a1 a2 a3 a4 c hc⟩
end Go.Proofs.YtcioahjfmmhiiaaDoor.PA
