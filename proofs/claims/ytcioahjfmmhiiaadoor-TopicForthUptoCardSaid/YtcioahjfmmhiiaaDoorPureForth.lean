/- TopicForth in plain Lean: Print undoes Parse, of texts that are not too long. -/
import Derived.Test.YtcioahjfmmhiiaaDoorPureBack
import Derived.Test.YtcioahjfmmhiiaaDoorPAf5
namespace Go.Proofs.YtcioahjfmmhiiaaDoor.PA
open Go.RowKit Go.Proofs.YtcioahjfmmhiiaaDoorW.PrintWords Go.Proofs.YtcioahjfmmhiiaaDoorW.PrintLast Go.Proofs.YtcioahjfmmhiiaaDoorW.PrintMore

theorem rd_at (l : List ByteArray) (i : Nat) (h : i < l.length) : rdOf ByteArray.empty l (i : Int) = l[i] := by
  simp [rdOf, List.getD_eq_getElem?_getD, h]
theorem wrap_succ (i : Nat) (h : i < 1000) : wrap64 ((i : Int) + 1) = ((i + 1 : Nat) : Int) := by unfold wrap64; omega
theorem forth_l0 (l : List ByteArray) (hl : ∀ z ∈ l, z.size ≤ 1000000000) (hlen : l.length ≤ 100) (b : Bool) : ∀ d i : Nat, i + d = l.length → ∀ k, 20 + d < k → humpyardlaw07_TopicForth.l0 k b l (l.length : Int) (i : Int) = some b := by
  intro d
  induction d with
  | zero =>
    intro i hi k hk
    obtain ⟨m, rfl⟩ : ∃ m, k = m + 1 := ⟨k - 1, by omega⟩
    rw [humpyardlaw07_TopicForth.l0, if_neg (by omega)]
  | succ d ih =>
    intro i hi k hk
    obtain ⟨m, rfl⟩ : ∃ m, k = m + 1 := ⟨k - 1, by omega⟩
    have hlt : i < l.length := by omega
    have hz := hl l[i] (List.getElem_mem hlt)
    have hnext := ih (i + 1) (by omega) m (by omega)
    rw [humpyardlaw07_TopicForth.l0, if_pos (by omega), if_pos (by omega), if_pos (by omega), rd_at l i hlt, wrap_succ i (by omega)]
    generalize l[i] = z at hz
    rw [parse_f z hz]
    rcases parse_says z with ⟨x, v, t, h1, h2, h3, rfl, hp⟩ | ⟨hp, _⟩
    · rw [hp]
      simp only [Option.bind_some, print_f m (by omega), printOf_good h1 h2 h3]
      simpa using hnext
    · rw [hp]
      simp only [Option.bind_some, ByteArray.toList_eq]
      simpa using hnext
theorem extract_size_le (s : ByteArray) (i j : Nat) : (s.extract i j).size ≤ s.size := by
  rw [ByteArray.size_extract]
  omega
theorem TopicForth (a0 a1 : ByteArray) (a2 a3 : Int) (a4 : ByteArray) (z0 : a0.size ≤ 1048576) (z1 : a1.size ≤ 1048576) (z4 : a4.size ≤ 1048576) (h2 : -9223372036854775808 ≤ a2 ∧ a2 ≤ 9223372036854775807) (h3 : -9223372036854775808 ≤ a3 ∧ a3 ≤ 9223372036854775807) :
    ∃ k, humpyardlaw07_TopicForth.f k a0 a1 a2 a3 a4 = some true := by
  refine ⟨50, ?_⟩
  obtain ⟨kd, hk, ht⟩ := topic_f a1 a0 a2 h2
  unfold humpyardlaw07_TopicForth.f
  rw [awake_f 50 (by decide), ht]
  simp only [Option.bind_some]
  rw [print_f 50 (by decide), printOf_good (fit_bs a1) (fit_bs a0) hk]
  simp only [Option.bind_some]
  have hsz := (topic_parts (fit_bs a1) (fit_bs a0) hk).2.2
  rw [← bs_size] at hsz
  generalize bs (topicL (bs (fitL a1.data.toList)).data.toList (bs (fitL a0.data.toList)).data.toList kd.data.toList) = p at hsz
  have hw : wrap64 ((p.size : Int) + 1) = (p.size : Int) + 1 := by unfold wrap64; omega
  rw [hw]
  obtain ⟨r, hr, hr0, hr1⟩ := pick_f a3 ((p.size : Int) + 1) h3 (by omega) (by omega)
  rw [hr]
  simp only [Option.bind_some]
  have hw2 : wrap64 (r + (a4.size : Int)) = r + (a4.size : Int) := by unfold wrap64; omega
  rw [hw2]
  have e1 := extract_size_le p 0 r.toNat
  have e2 := extract_size_le p (mn (r + (a4.size : Int)) (p.size : Int)).toNat p.size
  have e3 := extract_size_le p r.toNat p.size
  have m0 : 0 ≤ mn (r + (a4.size : Int)) (p.size : Int) := by unfold mn; omega
  have m1 : mn (r + (a4.size : Int)) (p.size : Int) ≤ (p.size : Int) := by unfold mn; omega
  have s1 : (p.extract 0 r.toNat ++ a4).size = (p.extract 0 r.toNat).size + a4.size := ByteArray.size_append
  rw [if_pos hr0, if_pos (by omega), if_pos (by omega), if_pos m0, if_pos m1, if_pos (by omega), if_pos (by omega)]
  refine forth_l0 _ ?_ (by simp) true 3 0 rfl 50 (by decide)
  intro z hz
  simp only [List.mem_cons, List.mem_nil_iff, or_false] at hz
  rcases hz with rfl | rfl | rfl
  · omega
  · rw [ByteArray.size_append]; omega
  · rw [ByteArray.size_append]; omega
#print axioms TopicForth
end Go.Proofs.YtcioahjfmmhiiaaDoor.PA
