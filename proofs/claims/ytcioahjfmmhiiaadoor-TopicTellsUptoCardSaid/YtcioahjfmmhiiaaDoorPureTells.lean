/- TopicTells in plain Lean: names, topics and filters are as the document says, of texts that are not too long. -/
import Derived.Test.YtcioahjfmmhiiaaDoorPureM
import Derived.Test.YtcioahjfmmhiiaaDoorPAf9
import Derived.Test.YtcioahjfmmhiiaaDoorPAf13
import Derived.Test.YtcioahjfmmhiiaaDoorPAf15
import Derived.Test.YtcioahjfmmhiiaaDoorPAf17
import Derived.Test.YtcioahjfmmhiiaaDoorPAf25
import Derived.Test.YtcioahjfmmhiiaaDoorPAf3
namespace Go.Proofs.YtcioahjfmmhiiaaDoor.PA
open Go.RowKit Go.Proofs.YtcioahjfmmhiiaaDoorW.PrintWords Go.Proofs.YtcioahjfmmhiiaaDoorW.PrintLast Go.Proofs.YtcioahjfmmhiiaaDoorW.PrintMore

theorem wrap_s (i : Nat) (h : i < 2000000000) : wrap64 ((i : Int) + 1) = ((i + 1 : Nat) : Int) := by unfold wrap64; omega
theorem bt_get (s : ByteArray) (i : Nat) (h : i < s.data.toList.length) : bt s (i : Int) = (s.data.toList[i].toNat : Int) := by
  have h' : i < s.size := h
  unfold bt
  rw [dif_pos (by simpa using h')]
  simp [ByteArray.getElem_eq_getElem_data]

/-! ### parts -/
theorem parts_l0 (s : ByteArray) (hs : s.size ≤ 1000000000) : ∀ (d i fr : Nat) (acc : List ByteArray) (cur : List UInt8), i + d = s.size → fr ≤ i → cur = (s.data.toList.drop fr).take (i - fr) → acc.length ≤ i → ∀ k, d < k →
    humpyardref07_parts.l0 k s acc (fr : Int) (i : Int) = some (acc ++ (pieces cur (s.data.toList.drop i)).map bs) := by
  intro d
  induction d with
  | zero =>
    intro i fr acc cur hi hf hc ha k hk
    obtain ⟨m, rfl⟩ : ∃ m, k = m + 1 := ⟨k - 1, by omega⟩
    have hsz : s.size = s.data.toList.length := by simp
    rw [humpyardref07_parts.l0, if_neg (by omega), if_pos (by omega), if_pos (by omega), if_pos (by omega)]
    have hd : s.data.toList.drop i = [] := List.drop_eq_nil_of_le (by omega)
    rw [hd, pieces]
    simp only [List.map_cons, List.map_nil]
    congr 3
    apply bs_inj
    rw [bs_list, hc, ByteArray.data_extract]
    simp
    omega
  | succ d ih =>
    intro i fr acc cur hi hf hc ha k hk
    obtain ⟨m, rfl⟩ : ∃ m, k = m + 1 := ⟨k - 1, by omega⟩
    have hsz : s.size = s.data.toList.length := by simp
    have hlt : i < s.data.toList.length := by omega
    rw [humpyardref07_parts.l0, if_pos (by omega), if_pos (by omega), bt_get s i hlt, wrap_s i (by omega)]
    have hd : s.data.toList.drop i = s.data.toList[i] :: s.data.toList.drop (i + 1) := List.drop_eq_getElem_cons hlt
    rw [hd, pieces]
    by_cases h : s.data.toList[i] = 47
    · rw [if_pos (by rw [h]; rfl), if_pos (by omega), if_pos (by omega), if_pos (by omega), if_pos (by omega), if_pos h]
      rw [ih (i + 1) (i + 1) _ [] (by omega) (by omega) (by simp) (by simp; omega) m (by omega)]
      simp only [List.map_cons, List.append_assoc, List.singleton_append]
      congr 3
      apply bs_inj
      rw [bs_list, hc, ByteArray.data_extract]
      simp
    · rw [if_neg (by intro e; apply h; have := s.data.toList[i].toNat_lt; exact UInt8.toNat_inj.1 (by show _ = 47; omega)), if_neg h]
      exact ih (i + 1) fr acc _ (by omega) (by omega) (by
        rw [hc, show i + 1 - fr = (i - fr) + 1 by omega, List.take_succ_eq_append_getElem (by simp; omega)]
        simp [show fr + (i - fr) = i by omega]) (by omega) m (by omega)

theorem parts_f (s : ByteArray) (hs : s.size ≤ 1000000000) (k : Nat) (hk : s.size < k) : humpyardref07_parts.f k s = some (partsB s) := by
  unfold humpyardref07_parts.f
  have := parts_l0 s hs s.size 0 0 [] [] (by omega) (by omega) (by simp) (by simp) k hk
  have h2 : partsB s = (pieces [] s.data.toList).map bs := rfl
  rw [h2]
  simpa using this

/-! ### Name -/
def mayI (c : Int) : Prop := (97 ≤ c ∧ c ≤ 122) ∨ (65 ≤ c ∧ c ≤ 90) ∨ (48 ≤ c ∧ c ≤ 57) ∨ c = 95 ∨ c = 46 ∨ c = 58 ∨ c = 45
instance (c : Int) : Decidable (mayI c) := by unfold mayI; infer_instance
theorem may_at : ∀ n : Fin 256, may.contains (UInt8.ofNat n.1) = decide (mayI (n.1 : Int)) := by decide +kernel
theorem may_iff (c : UInt8) : may.contains c = decide (mayI (c.toNat : Int)) := by
  have := may_at ⟨c.toNat, c.toNat_lt⟩
  simpa using this
set_option maxHeartbeats 4000000 in
theorem name_step (s : ByteArray) (m i : Nat) (h : i < s.data.toList.length) (hi : i < 1000000000) : humpyardref07_Name.l0 (m + 1) s (i : Int) = if may.contains s.data.toList[i] = true then humpyardref07_Name.l0 m s ((i + 1 : Nat) : Int) else some false := by
  have hsz : s.size = s.data.toList.length := by simp
  have h0 := s.data.toList[i].toNat_lt
  by_cases hm0 : may.contains s.data.toList[i] = true
  · rw [if_pos hm0]
    rw [may_iff, decide_eq_true_iff] at hm0
    rw [humpyardref07_Name.l0, if_pos (by omega), if_pos (by omega), bt_get s i h, wrap_s i (by omega)]
    generalize s.data.toList[i].toNat = c at h0 hm0
    clear hsz h hi
    unfold mayI at hm0
    repeat' split
    all_goals first
      | rfl
      | (exfalso; omega)
  · rw [if_neg hm0]
    rw [may_iff, decide_eq_true_iff] at hm0
    rw [humpyardref07_Name.l0, if_pos (by omega), if_pos (by omega), bt_get s i h, wrap_s i (by omega)]
    generalize s.data.toList[i].toNat = c at h0 hm0
    clear hsz h hi
    unfold mayI at hm0
    repeat' split
    all_goals first
      | rfl
      | (exfalso; omega)
theorem name_l0 (s : ByteArray) (hs : s.size ≤ 1000000000) : ∀ d i : Nat, i + d = s.size → ∀ k, d < k → humpyardref07_Name.l0 k s (i : Int) = some ((s.data.toList.drop i).all (may.contains ·) && decide (1 ≤ s.size) && decide (s.size ≤ 16)) := by
  intro d
  have hsz : s.size = s.data.toList.length := by simp
  induction d with
  | zero =>
    intro i hi k hk
    obtain ⟨m, rfl⟩ : ∃ m, k = m + 1 := ⟨k - 1, by omega⟩
    rw [humpyardref07_Name.l0, if_neg (by omega), List.drop_eq_nil_of_le (by omega)]
    by_cases h : 1 ≤ s.size
    · rw [if_pos (by omega)]
      have : decide ((s.size : Int) ≤ 16) = decide (s.size ≤ 16) := by
        by_cases h16 : s.size ≤ 16
        · rw [decide_eq_true h16, decide_eq_true (by omega)]
        · rw [decide_eq_false h16, decide_eq_false (by omega)]
      rw [this, decide_eq_true h]
      simp
    · rw [if_neg (by omega), decide_eq_false h]
      simp
  | succ d ih =>
    intro i hi k hk
    obtain ⟨m, rfl⟩ : ∃ m, k = m + 1 := ⟨k - 1, by omega⟩
    have hlt : i < s.data.toList.length := by omega
    rw [name_step s m i hlt (by omega), List.drop_eq_getElem_cons hlt, List.all_cons]
    by_cases h : may.contains s.data.toList[i] = true
    · rw [if_pos h, h, Bool.true_and]
      exact ih (i + 1) (by omega) m (by omega)
    · rw [if_neg h, Bool.not_eq_true _ |>.mp h]
      simp
theorem refName_f (s : ByteArray) (hs : s.size ≤ 1000000000) (k : Nat) (hk : s.size < k) : humpyardref07_Name.f k s = some (isName s.data.toList) := by
  unfold humpyardref07_Name.f
  rw [show (0 : Int) = ((0 : Nat) : Int) from rfl, name_l0 s hs s.size 0 (by omega) k hk]
  unfold isName
  have hsz : s.size = s.data.toList.length := by simp
  rw [hsz, List.drop_zero]
  congr 3
  cases s.data.toList <;> simp

theorem rd_get (l : List ByteArray) (i : Nat) : rdOf ByteArray.empty l (i : Int) = l.getD i ByteArray.empty := rfl
theorem match_l0 (f n : List ByteArray) (hf : f.length ≤ 1000000001) : ∀ d i : Nat, i + d = f.length → ∀ k, 2 * d < k → humpyardref07_Match.l0 k f n (i : Int) = some (matchFrom n ((f.length : Int) - 1) i (f.drop i)) := by
  intro d
  induction d with
  | zero =>
    intro i hi k hk
    obtain ⟨m, rfl⟩ : ∃ m, k = m + 1 := ⟨k - 1, by omega⟩
    rw [humpyardref07_Match.l0, if_neg (by omega), List.drop_eq_nil_of_le (by omega), matchFrom]
    congr 1
    rw [Bool.eq_iff_iff, beq_iff_eq, decide_eq_true_iff]
    omega
  | succ d ih =>
    intro i hi k hk
    obtain ⟨m, rfl⟩ : ∃ m, k = m + 1 + 1 := ⟨k - 2, by omega⟩
    have hlt : i < f.length := by omega
    have hnext := ih (i + 1) (by omega) m (by omega)
    have hg : f.getD i ByteArray.empty = f[i] := by simp [List.getD_eq_getElem?_getD, hlt]
    have hw : wrap64 ((f.length : Int) - 1) = (f.length : Int) - 1 := by unfold wrap64; omega
    have hj : ∀ b : Bool, humpyardref07_Match.j1 (m + 1) f n (i : Int) b = if b = true then some true else if n.length ≤ i then some false else if f[i].toList = [43] then humpyardref07_Match.l0 m f n ((i + 1 : Nat) : Int) else if f[i].toList = (n.getD i ByteArray.empty).toList then humpyardref07_Match.l0 m f n ((i + 1 : Nat) : Int) else some false := by
      intro b
      rw [humpyardref07_Match.j1, wrap_s i (by omega), rd_get, rd_get, hg]
      by_cases hb : b = true
      · rw [if_pos hb, if_pos hb]
      · rw [if_neg hb, if_neg hb]
        by_cases hn : n.length ≤ i
        · rw [if_pos (by omega), if_pos hn]
        · rw [if_neg (by omega), if_neg hn, if_pos (by omega), if_pos (by omega)]
          by_cases h43 : f[i].toList = [43]
          · rw [if_pos h43, if_pos h43]
          · rw [if_neg h43, if_neg h43, if_pos (by omega)]
    rw [humpyardref07_Match.l0, if_pos (by omega), if_pos (by omega), rd_get, hg, hw, hj, hj, hnext, List.drop_eq_getElem_cons hlt, matchFrom]
    unfold partSays
    simp only [ByteArray.toList_eq]
    generalize f[i] = x
    generalize n.getD i ByteArray.empty = y
    generalize matchFrom n ((f.length : Int) - 1) (i + 1) (f.drop (i + 1)) = res
    by_cases h1 : x.data.toList = [35]
    · by_cases h2 : (i : Int) = (f.length : Int) - 1
      · rw [if_pos h1, if_pos (by simpa using h2), if_pos ⟨h1, h2⟩]
      · rw [if_pos h1, if_neg (by simpa using h2), if_neg (show ¬ (x.data.toList = [35] ∧ (i : Int) = (f.length : Int) - 1) from fun h => h2 h.2)]
        by_cases h3 : n.length ≤ i
        · rw [if_pos h3, if_pos h3]
        · rw [if_neg h3, if_neg h3]
          by_cases h4 : x.data.toList = [43]
          · rw [if_pos h4, if_neg (fun h => h.1 h4)]
          · rw [if_neg h4]
            by_cases h5 : x.data.toList = y.data.toList
            · rw [if_pos h5, if_neg (fun h => h.2 h5)]
            · rw [if_neg h5, if_pos ⟨h4, h5⟩]
    · rw [if_neg h1, if_neg (by simp), if_neg (show ¬ (x.data.toList = [35] ∧ (i : Int) = (f.length : Int) - 1) from fun h => h1 h.1)]
      by_cases h3 : n.length ≤ i
      · rw [if_pos h3, if_pos h3]
      · rw [if_neg h3, if_neg h3]
        by_cases h4 : x.data.toList = [43]
        · rw [if_pos h4, if_neg (fun h => h.1 h4)]
        · rw [if_neg h4]
          by_cases h5 : x.data.toList = y.data.toList
          · rw [if_pos h5, if_neg (fun h => h.2 h5)]
          · rw [if_neg h5, if_pos ⟨h4, h5⟩]
theorem refMatch_f (f n : ByteArray) (hf : f.size ≤ 1000000000) (hn : n.size ≤ 1000000000) (k : Nat) (hk : 2 * f.size + n.size + 10 < k) : humpyardref07_Match.f k f n = some (matchB f n) := by
  unfold humpyardref07_Match.f
  have hl := partsB_len f
  rw [parts_f f hf k (by omega), parts_f n hn k (by omega)]
  simp only [Option.bind_some]
  rw [show (0 : Int) = ((0 : Nat) : Int) from rfl, match_l0 (partsB f) (partsB n) (by omega) (partsB f).length 0 (by omega) k (by omega), List.drop_zero]
  rfl
/-! ### Print, Parse -/
theorem refPrint_f (m v x : ByteArray) (hm : m.size ≤ 1000000000) (hv : v.size ≤ 1000000000) (hx : x.size ≤ 1000000000) (k : Nat) (hk : m.size + v.size < k) : humpyardref07_Print.f k m v x = some (printOf m v x) := by
  unfold humpyardref07_Print.f printOf
  rw [refName_f m hm k (by omega), refName_f v hv k (by omega)]
  simp only [Option.bind_some]
  have u8 : (⟨#[117, 97, 103, 118, 47, 118, 50, 47]⟩ : ByteArray).size = 8 := rfl
  have u1 : (⟨#[47]⟩ : ByteArray).size = 1 := rfl
  have e : (((((⟨#[117, 97, 103, 118, 47, 118, 50, 47]⟩ : ByteArray) ++ m) ++ (⟨#[47]⟩ : ByteArray)) ++ v) ++ (⟨#[47]⟩ : ByteArray)) ++ x = bs (topicL m.data.toList v.data.toList x.data.toList) := by
    apply bs_inj
    rw [bs_list]
    simp [ByteArray.data_append, topicL, headB]
  simp only [ByteArray.size_append, u8, u1, ByteArray.toList_eq, e]
  rw [if_pos (show 8 + m.size ≤ 9223372036854775807 by omega), if_pos (show 8 + m.size + 1 ≤ 9223372036854775807 by omega), if_pos (show 8 + m.size + 1 + v.size ≤ 9223372036854775807 by omega), if_pos (show 8 + m.size + 1 + v.size + 1 ≤ 9223372036854775807 by omega), if_pos (show 8 + m.size + 1 + v.size + 1 + x.size ≤ 9223372036854775807 by omega)]
  by_cases h1 : isName m.data.toList = true
  · by_cases h2 : isName v.data.toList = true
    · rw [if_pos h1, if_pos h2]
      unfold isKind
      generalize x.data.toList = l
      by_cases k1 : l = [111, 114, 100, 101, 114]
      · rw [if_pos k1, if_pos ⟨h1, h2, by simp [k1]⟩]
      · rw [if_neg k1]
        by_cases k2 : l = [105, 110, 115, 116, 97, 110, 116, 65, 99, 116, 105, 111, 110, 115]
        · rw [if_pos k2, if_pos ⟨h1, h2, by simp [k2]⟩]
        · rw [if_neg k2]
          by_cases k3 : l = [115, 116, 97, 116, 101]
          · rw [if_pos k3, if_pos ⟨h1, h2, by simp [k3]⟩]
          · rw [if_neg k3]
            by_cases k4 : l = [99, 111, 110, 110, 101, 99, 116, 105, 111, 110]
            · rw [if_pos k4, if_pos ⟨h1, h2, by simp [k4]⟩]
            · rw [if_neg k4]
              by_cases k5 : l = [118, 105, 115, 117, 97, 108, 105, 122, 97, 116, 105, 111, 110]
              · rw [if_pos k5, if_pos ⟨h1, h2, by simp [k5]⟩]
              · rw [if_neg k5, if_neg (by rintro ⟨_, _, h⟩; simp [k1, k2, k3, k4, k5] at h)]
    · rw [if_pos h1, if_neg h2, if_neg (by rintro ⟨_, h, _⟩; exact h2 h)]
  · rw [if_neg h1, if_neg (by rintro ⟨h, _⟩; exact h1 h)]

theorem pieces_mem : ∀ (l acc x : List UInt8), x ∈ pieces acc l → x.length ≤ acc.length + l.length
  | [], acc, x, h => by
    simp [pieces] at h
    subst h
    omega
  | c :: r, acc, x, h => by
    unfold pieces at h
    split at h
    · rcases List.mem_cons.1 h with rfl | h
      · omega
      · have := pieces_mem r [] x h
        simp at this ⊢
        omega
    · have := pieces_mem r _ x h
      simp at this ⊢
      omega
theorem partsB_mem (s x : ByteArray) (h : x ∈ partsB s) : x.size ≤ s.size := by
  unfold partsB partsL at h
  obtain ⟨l, hl, rfl⟩ := List.mem_map.1 h
  have := pieces_mem s.data.toList [] l hl
  show l.length ≤ s.size
  simpa using this
theorem refParse_f (z : ByteArray) (hz : z.size ≤ 100000000) (k : Nat) (hk : 2 * z.size < k) : humpyardref07_Parse.f k z = some (parseOf isKind (Lib.hasPrefix z.data.toList headB) (partsB (behindOf z))) := by
  unfold humpyardref07_Parse.f
  rw [parts_f z (by omega) k (by omega)]
  simp only [Option.bind_some]
  rcases parse_says z with ⟨m, v, x, h1, h2, h3, rfl, hp⟩ | ⟨hp, hno⟩
  · have l1 := isName_len h1
    have l2 := isName_len h2
    have l3 := isKind_len h3
    have hsz : m.size + v.size < k := by
      have : (topicL m.data.toList v.data.toList x.data.toList).length = 8 + m.data.toList.length + 1 + v.data.toList.length + 1 + x.data.toList.length := by
        unfold topicL headB
        simp
        omega
      rw [bs_size] at hk
      have e1 : m.data.toList.length = m.size := by simp
      have e2 : v.data.toList.length = v.size := by simp
      omega
    have e1 : m.data.toList.length = m.size := by simp
    have e2 : v.data.toList.length = v.size := by simp
    have e3 : x.data.toList.length = x.size := by simp
    rw [hp, topic_five h1 h2 h3]
    simp only [rdOf, List.length_cons, List.length_nil]
    rw [if_pos (by decide), if_pos (by decide), if_pos (by decide), if_pos (by decide)]
    show (humpyardref07_Print.f k m v x).bind _ = _
    rw [refPrint_f m v x (by omega) (by omega) (by omega) k hsz, printOf_good h1 h2 h3]
    simp only [Option.bind_some]
    rw [if_pos trivial, if_pos trivial]
    rfl
  · rw [hp]
    by_cases h5 : ((partsB z).length : Int) = 5
    · rw [if_pos h5, if_pos (by omega), if_pos (by omega), if_pos (by omega)]
      have h5' : (partsB z).length = 5 := by omega
      have hmem := partsB_mem z
      obtain ⟨a, b, c, d, e, hq⟩ : ∃ a b c d e, partsB z = [a, b, c, d, e] := by
        match hq : partsB z, h5' with
        | [a, b, c, d, e], _ => exact ⟨a, b, c, d, e, rfl⟩
      rw [hq] at hmem ⊢
      have m1 := hmem c (by simp)
      have m2 := hmem d (by simp)
      have m3 := hmem e (by simp)
      show (humpyardref07_Print.f k c d e).bind _ = _
      rw [refPrint_f c d e (by omega) (by omega) (by omega) k (by omega)]
      by_cases hg : isName c.data.toList = true ∧ isName d.data.toList = true ∧ isKind e = true
      · rw [printOf_good hg.1 hg.2.1 hg.2.2]
        simp only [Option.bind_some]
        rw [if_pos trivial, if_neg]
        intro h
        refine hno c d e hg.1 hg.2.1 hg.2.2 (bs_inj ?_)
        rw [ByteArray.toList_eq, ByteArray.toList_eq] at h
        exact h.symm
      · have : printOf c d e = (⟨#[]⟩, 70) := if_neg hg
        rw [this]
        simp
    · rw [if_neg h5]
theorem tells_l0 (flt : ByteArray) (hf : flt.size ≤ 10000000) (l : List ByteArray) (hl : ∀ z ∈ l, z.size ≤ 10000000) (hlen : l.length ≤ 100) (b : Bool) : ∀ d i : Nat, i + d = l.length → ∀ k, 100000000 + d < k → humpyardlaw07_TopicTells.l0 k flt b l (l.length : Int) (i : Int) = some b := by
  intro d
  induction d with
  | zero =>
    intro i hi k hk
    obtain ⟨m, rfl⟩ : ∃ m, k = m + 1 := ⟨k - 1, by omega⟩
    rw [humpyardlaw07_TopicTells.l0, if_neg (by omega)]
  | succ d ih =>
    intro i hi k hk
    obtain ⟨m, rfl⟩ : ∃ m, k = m + 1 := ⟨k - 1, by omega⟩
    have hlt : i < l.length := by omega
    have hz := hl l[i] (List.getElem_mem hlt)
    have hnext := ih (i + 1) (by omega) m (by omega)
    rw [humpyardlaw07_TopicTells.l0, if_pos (by omega), if_pos (by omega), if_pos (by omega), rd_at l i hlt, wrap_succ i (by omega)]
    generalize l[i] = z at hz
    rw [parse_f z (by omega), refParse_f z (by omega) m (by omega), match_f flt z (by omega) (by omega), refMatch_f flt z (by omega) (by omega) m (by omega), match_f z flt (by omega) (by omega), refMatch_f z flt (by omega) (by omega) m (by omega)]
    generalize parseOf isKind (Lib.hasPrefix z.data.toList headB) (partsB (behindOf z)) = p
    generalize matchB flt z = q1
    generalize matchB z flt = q2
    simp only [Option.bind_some]
    simpa using hnext
theorem TopicTells (b0 b1 b2 a1 a2 a3 : ByteArray) (a4 a5 : Int) (a6 : ByteArray) (y0 : b0.size ≤ 1048576) (y1 : b1.size ≤ 1048576) (y2 : b2.size ≤ 1048576) (z1 : a1.size ≤ 1048576) (z2 : a2.size ≤ 1048576) (z3 : a3.size ≤ 1048576) (z6 : a6.size ≤ 1048576)
    (h4 : -9223372036854775808 ≤ a4 ∧ a4 ≤ 9223372036854775807) (h5 : -9223372036854775808 ≤ a5 ∧ a5 ≤ 9223372036854775807) :
    ∃ k, humpyardlaw07_TopicTells.f k b0 b1 b2 a1 a2 a3 a4 a5 a6 = some true := by
  obtain ⟨N, hN⟩ : ∃ N : Nat, N = 200000000 := ⟨_, rfl⟩
  refine ⟨N, ?_⟩
  obtain ⟨kd, hk, ht⟩ := topic_f a3 a1 a4 h4
  unfold humpyardlaw07_TopicTells.f
  have hl3 := isKind_len hk
  have ekd : kd.data.toList.length = kd.size := by simp
  have f1 : (bs (fitL a3.data.toList)).size ≤ 16 := isName_len (fit_name _)
  have f2 : (bs (fitL a1.data.toList)).size ≤ 16 := isName_len (fit_name _)
  rw [awake_f N (by omega), ht]
  simp only [Option.bind_some]
  rw [refPrint_f (bs (fitL a3.data.toList)) (bs (fitL a1.data.toList)) kd (by omega) (by omega) (by omega) N (by omega), printOf_good (fit_bs a3) (fit_bs a1) hk]
  simp only [Option.bind_some]
  clear f1 f2 hl3 ekd
  have hsz := (topic_parts (fit_bs a3) (fit_bs a1) hk).2.2
  rw [← bs_size] at hsz
  generalize bs (topicL (bs (fitL a3.data.toList)).data.toList (bs (fitL a1.data.toList)).data.toList kd.data.toList) = p at hsz
  have hw : wrap64 ((p.size : Int) + 1) = (p.size : Int) + 1 := by unfold wrap64; omega
  rw [hw]
  clear hw h4
  obtain ⟨r, hr, hr0, hr1⟩ := pick_f a5 ((p.size : Int) + 1) h5 (by omega) (by omega)
  clear h5
  have hn : topic_Name.f a1 = some (isName a1.data.toList) := rfl
  rw [hr, print_f N (by omega), refPrint_f b0 b1 b2 (by omega) (by omega) (by omega) N (by omega), hn, refName_f a1 (by omega) N (by omega)]
  simp only [Option.bind_some, if_true]
  obtain ⟨M, rfl⟩ : ∃ M, N = M + 1 := ⟨N - 1, by omega⟩
  have hb : (isName a1.data.toList != isName a1.data.toList) = false := by simp
  rw [hb, humpyardlaw07_TopicTells.j0, if_neg (by simp)]
  have hw2 : wrap64 (r + (a6.size : Int)) = r + (a6.size : Int) := by unfold wrap64; omega
  rw [hw2]
  clear hw2
  have e1 := extract_size_le p 0 r.toNat
  have e2 := extract_size_le p (mn (r + (a6.size : Int)) (p.size : Int)).toNat p.size
  have e3 := extract_size_le p r.toNat p.size
  have m0 : 0 ≤ mn (r + (a6.size : Int)) (p.size : Int) := by unfold mn; omega
  have m1 : mn (r + (a6.size : Int)) (p.size : Int) ≤ (p.size : Int) := by unfold mn; omega
  have s1 : (p.extract 0 r.toNat ++ a6).size = (p.extract 0 r.toNat).size + a6.size := ByteArray.size_append
  rw [if_pos hr0, if_pos (by omega), if_pos (by omega), if_pos m0, if_pos m1, if_pos (by omega), if_pos (by omega)]
  rw [Option.bind_some]
  refine tells_l0 a2 (by omega) _ ?_ (by simp) true 4 0 rfl M (by omega)
  intro z hz
  simp only [List.mem_cons, List.mem_nil_iff, or_false] at hz
  rcases hz with rfl | rfl | rfl | rfl
  · omega
  · omega
  · rw [ByteArray.size_append]; omega
  · rw [ByteArray.size_append]; omega
#print axioms TopicTells
end Go.Proofs.YtcioahjfmmhiiaaDoor.PA
