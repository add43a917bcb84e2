/- TopicFilters: the walk. -/
import Derived.Test.YtcioahjfmmhiiaaDoorPureFilters
namespace Go.Proofs.YtcioahjfmmhiiaaDoor.PA
open Go.RowKit Go.Proofs.YtcioahjfmmhiiaaDoorW.PrintWords Go.Proofs.YtcioahjfmmhiiaaDoorW.PrintLast Go.Proofs.YtcioahjfmmhiiaaDoorW.PrintMore

def stF (l : List ByteArray) (k : Nat) : Nat → ByteArray × ByteArray
  | 0 => (⟨#[]⟩, ⟨#[]⟩)
  | i + 1 => (if i < 4 then ((stF l k i).1 ++ (if i = k then plusB else l.getD i ByteArray.empty)) ++ ⟨#[47]⟩ else (stF l k i).1 ++ (if i = k then plusB else l.getD i ByteArray.empty), if i = k then (stF l k i).1 ++ hashB else (stF l k i).2)
theorem stF_size (l : List ByteArray) (k : Nat) (h : ∀ i, (l.getD i ByteArray.empty).size ≤ 16) : ∀ i, (stF l k i).1.size ≤ 17 * i
  | 0 => Nat.le_refl 0
  | i + 1 => by
    have ih := stF_size l k h i
    have h1 := h i
    have h2 : plusB.size = 1 := rfl
    have h3 : (⟨#[47]⟩ : ByteArray).size = 1 := rfl
    unfold stF
    by_cases e : i = k
    · by_cases e4 : i < 4
      · simp only [if_pos e, if_pos e4, ByteArray.size_append]; omega
      · simp only [if_pos e, if_neg e4, ByteArray.size_append]; omega
    · by_cases e4 : i < 4
      · simp only [if_neg e, if_pos e4, ByteArray.size_append]; omega
      · simp only [if_neg e, if_neg e4, ByteArray.size_append]; omega
theorem stF_end (m v x : ByteArray) (k : Nat) (hk : k < 5) : stF (five m v x) k 5 = (joinB (plusAt (five m v x) k), joinB (hashAt (five m v x) k)) := by
  have : k = 0 ∨ k = 1 ∨ k = 2 ∨ k = 3 ∨ k = 4 := by omega
  rcases this with rfl | rfl | rfl | rfl | rfl <;>
  · refine Prod.ext (bs_inj ?_) (bs_inj ?_) <;> simp [stF, five, plusAt, hashAt, joinB, joinS, ByteArray.data_append, plusB, hashB, uB, wB, bs]
theorem five_size {m v x : ByteArray} (h : Good m v x) : ∀ i, ((five m v x).getD i ByteArray.empty).size ≤ 16 := by
  intro i
  have l1 := isName_len h.m
  have l2 := isName_len h.v
  have l3 := isKind_len h.k
  have e1 : m.data.toList.length = m.size := by simp
  have e2 : v.data.toList.length = v.size := by simp
  have e3 : x.data.toList.length = x.size := by simp
  have u1 : uB.size = 4 := rfl
  have u2 : wB.size = 2 := rfl
  match i with
  | 0 => show uB.size ≤ 16; omega
  | 1 => show wB.size ≤ 16; omega
  | 2 => show m.size ≤ 16; omega
  | 3 => show v.size ≤ 16; omega
  | 4 => show x.size ≤ 16; omega
  | _ + 5 => show ByteArray.empty.size ≤ 16; decide
theorem text_size {m v x : ByteArray} (h : Good m v x) : (textOf m v x).size ≤ 56 := (topic_parts h.m h.v h.k).2.2
/-- What the law asks of Match. -/
theorem filters_say {m v x m' v' x' : ByteArray} (h : Good m v x) (h' : Good m' v' x') (k : Nat) (hk : k < 5) :
    topic_Match.f (textOf m v x) (textOf m v x) = some true ∧ topic_Match.f (stF (five m v x) k 5).1 (textOf m v x) = some true ∧ topic_Match.f (stF (five m v x) k 5).2 (textOf m v x) = some true ∧ topic_Match.f ⟨#[35]⟩ (textOf m v x) = some true ∧
    topic_Match.f (textOf m v x) (textOf m' v' x') = some ((textOf m v x).toList == (textOf m' v' x').toList) ∧ topic_Match.f (textOf m v x) (textOf m v x ++ ⟨#[47, 121]⟩) = some false ∧ topic_Match.f (textOf m v x ++ ⟨#[47, 121]⟩) (textOf m v x) = some false ∧ topic_Match.f (textOf m v x ++ ⟨#[47, 35]⟩) (textOf m v x) = some true := by
  have s1 := text_size h
  have s2 := text_size h'
  have sp := stF_size (five m v x) k (five_size h) 5
  have e1 : textOf m v x ++ ⟨#[47, 121]⟩ = more (textOf m v x) yB := by
    apply bs_inj
    simp [more, bs_list, yB, ByteArray.data_append]
  have e2 : textOf m v x ++ ⟨#[47, 35]⟩ = more (textOf m v x) hashB := by
    apply bs_inj
    simp [more, bs_list, hashB, ByteArray.data_append]
  have l1 : (textOf m v x ++ ⟨#[47, 121]⟩ : ByteArray).size = (textOf m v x).size + 2 := ByteArray.size_append
  have l2 : (textOf m v x ++ ⟨#[47, 35]⟩ : ByteArray).size = (textOf m v x).size + 2 := ByteArray.size_append
  have sh : (stF (five m v x) k 5).2.size ≤ 200 := by
    rw [stF_end m v x k hk]
    have t1 := five_size h 0
    have t2 := five_size h 1
    have t3 := five_size h 2
    have t4 := five_size h 3
    have t5 := five_size h 4
    have : k = 0 ∨ k = 1 ∨ k = 2 ∨ k = 3 ∨ k = 4 := by omega
    simp [five] at t1 t2 t3 t4 t5
    rcases this with rfl | rfl | rfl | rfl | rfl <;>
    · simp [five, hashAt, joinB, joinS, hashB, bs_size]
      first | done | omega
  refine ⟨?_, ?_, ?_, ?_, ?_, ?_, ?_, ?_⟩
  · rw [match_f _ _ (by omega) (by omega), match_self h]
  · rw [match_f _ _ (by omega) (by omega), stF_end m v x k hk, match_plus h]
  · rw [match_f _ _ (by omega) (by omega), stF_end m v x k hk, match_cut h k hk]
  · rw [match_f _ _ (by decide) (by omega)]
    exact congrArg some (match_all _)
  · rw [match_f _ _ (by omega) (by omega), match_texts h h']
    congr 1
    rw [Bool.eq_iff_iff, decide_eq_true_iff, beq_iff_eq, ByteArray.toList_eq, ByteArray.toList_eq, bytes_eq]
  · rw [match_f _ _ (by omega) (by omega), e1, match_more1 h]
  · rw [match_f _ _ (by omega) (by omega), e1, match_more2 h]
  · rw [match_f _ _ (by omega) (by omega), e2, match_more3 h]
set_option maxRecDepth 100000 in
set_option maxHeartbeats 4000000 in
theorem humpyardlaw07_TopicFilters.calls (k0 : Nat) (a0 a1 b0 b1 : ByteArray) (kd ot pt : Int) (h1 : -9223372036854775808 ≤ kd ∧ kd ≤ 9223372036854775807) (h2 : -9223372036854775808 ≤ ot ∧ ot ≤ 9223372036854775807) (h3 : -9223372036854775808 ≤ pt ∧ pt ≤ 9223372036854775807) (w : World) :
    Calls Tryd.prog 6 #[.agg #[.string a0, .string a1], .agg #[.string b0, .string b1], .int .i64 kd, .int .i64 ot, .int .i64 pt] w fun e w' => e = .returned (.bool true) ∧ Below w.heap.size w w' := by
  obtain ⟨kx, hkx, htx⟩ := topic_f a0 a1 kd h1
  obtain ⟨ky, hky, hty⟩ := topic_f b0 b1 ot h2
  obtain ⟨q, hq, hq0, hq5⟩ := pick_f pt 5 h3 (by decide) (by decide)
  have gx : Good (bs (fitL a0.data.toList)) (bs (fitL a1.data.toList)) kx := ⟨fit_bs a0, fit_bs a1, hkx⟩
  have gy : Good (bs (fitL b0.data.toList)) (bs (fitL b1.data.toList)) ky := ⟨fit_bs b0, fit_bs b1, hky⟩
  have px := print_f 30 (by decide) (bs (fitL a0.data.toList)) (bs (fitL a1.data.toList)) kx
  rw [printOf_good gx.m gx.v gx.k] at px
  have py := print_f 30 (by decide) (bs (fitL b0.data.toList)) (bs (fitL b1.data.toList)) ky
  rw [printOf_good gy.m gy.v gy.k] at py
  have HX := Aside0.mk (And.intro htx (And.intro px gx))
  have HY := Aside0.mk (And.intro hty (And.intro py gy))
  clear htx px gx hty py gy hkx hky h1 h2 h3
  generalize bs (fitL a0.data.toList) = mx at HX
  generalize bs (fitL a1.data.toList) = vx at HX
  generalize bs (fitL b0.data.toList) = my at HY
  generalize bs (fitL b1.data.toList) = vy at HY
  have hu38 := Tryd.underlying38
  have hu23 := Tryd.underlying23
  go_enter Tryd.func6, Tryd.ntmps6
  go_wp2_with fail
  have hza : ((w.alloc (.cells #[.string a0, .string a1] 38)).alloc (.cells #[.string b0, .string b1] 38)).heap[w.heap.size]? = some (.cells #[.string a0, .string a1] 38) := (Below.heap_alloc _ _ _ (by simp)).trans (World.alloc_heap_new w _)
  have hzb : ((w.alloc (.cells #[.string a0, .string a1] 38)).alloc (.cells #[.string b0, .string b1] 38)).heap[w.heap.size + 1]? = some (.cells #[.string b0, .string b1] 38) := by
    have := World.alloc_heap_new (w.alloc (.cells #[.string a0, .string a1] 38)) (.cells #[.string b0, .string b1] 38)
    rw [World.size_alloc] at this
    exact this
  have hb0 : Below w.heap.size w ((w.alloc (.cells #[.string a0, .string a1] 38)).alloc (.cells #[.string b0, .string b1] 38)) := ((Below.refl _ w).alloc (Nat.le_refl _) _).alloc (by simp) _
  generalize (w.alloc (.cells #[.string a0, .string a1] 38)).alloc (.cells #[.string b0, .string b1] 38) = W0 at hza hzb hb0 ⊢
  have hl0 := lt_some hzb
  have CY : Aside0 (∀ W', Below W0.heap.size W0 W' → W'.cell? ⟨w.heap.size, 0, none⟩ = some (.string a0) ∧ W'.cell? ⟨w.heap.size, 1, none⟩ = some (.string a1) ∧ W'.cell? ⟨w.heap.size + 1, 0, none⟩ = some (.string b0) ∧ W'.cell? ⟨w.heap.size + 1, 1, none⟩ = some (.string b1) ∧ Below w.heap.size w W') := ⟨fun W' hb => by
    have e1 := (hb.block _ (lt_some hza)).trans hza
    have e2 := (hb.block _ (lt_some hzb)).trans hzb
    exact ⟨by simp [World.cell?, e1], by simp [World.cell?, e1], by simp [World.cell?, e2], by simp [World.cell?, e2], hb0.trans (hb.mono hb0.size)⟩⟩
  clear hza hzb hb0
  refine (humpyardlaw07_awake.calls 30 true W0 (awake_f 30 (by decide))).mono ?_
  rintro e W1 ⟨rfl, hb⟩
  have HB1 := Aside0.mk hb
  obtain ⟨c0, c1, c2, c3, _⟩ := CY.out W1 hb
  clear hb
  go_wp2_with fail
  refine (humpyardlaw07_Topic.calls a0 a1 kd mx vx kx W1 HX.out.1).mono ?_
  rintro e W2 ⟨rfl, hb⟩
  have HB2 : Aside0 (Below W0.heap.size W0 W2) := ⟨HB1.out.trans (hb.mono HB1.out.size)⟩
  clear hb HB1 c0 c1 c2 c3
  obtain ⟨c0, c1, c2, c3, _⟩ := CY.out W2 HB2.out
  go_wp2_with fail
  refine (topic_Print.calls 30 mx vx kx (textOf mx vx kx) 0 W2 HX.out.2.1).mono ?_
  rintro e W3 ⟨rfl, hb⟩
  have HB3 : Aside0 (Below W0.heap.size W0 W3) := ⟨HB2.out.trans (hb.mono HB2.out.size)⟩
  clear hb HB2 c0 c1 c2 c3
  obtain ⟨c0, c1, c2, c3, _⟩ := CY.out W3 HB3.out
  go_wp2_with fail
  refine (humpyardlaw07_Topic.calls b0 b1 ot my vy ky W3 HY.out.1).mono ?_
  rintro e W4 ⟨rfl, hb⟩
  have HB4 : Aside0 (Below W0.heap.size W0 W4) := ⟨HB3.out.trans (hb.mono HB3.out.size)⟩
  clear hb HB3 c0 c1 c2 c3
  obtain ⟨c0, c1, c2, c3, _⟩ := CY.out W4 HB4.out
  go_wp2_with fail
  refine (topic_Print.calls 30 my vy ky (textOf my vy ky) 0 W4 HY.out.2.1).mono ?_
  rintro e W5 ⟨rfl, hb⟩
  have HB5 : Aside0 (Below W0.heap.size W0 W5) := ⟨HB4.out.trans (hb.mono HB4.out.size)⟩
  clear hb HB4 c0 c1 c2 c3
  obtain ⟨c0, c1, c2, c3, _⟩ := CY.out W5 HB5.out
  go_wp2_with fail
  refine (humpyardlaw07_Topic.calls a0 a1 kd mx vx kx W5 HX.out.1).mono ?_
  rintro e W6 ⟨rfl, hb⟩
  have HB6 : Aside0 (Below w.heap.size w W6) := ⟨(CY.out W6 (HB5.out.trans (hb.mono HB5.out.size))).2.2.2.2⟩
  clear hb HB5 c0 c1 c2 c3 CY
  go_wp2_with fail
  have hN : ∃ W7, (W6.alloc (.cells #[.string mx, .string vx, .string kx] 23)).alloc (.cells #[.string ⟨#[117, 97, 103, 118]⟩, .string ⟨#[118, 50]⟩, .string mx, .string vx, .string kx] 9) = W7 := ⟨_, rfl⟩
  obtain ⟨W7, hW7⟩ := hN
  rw [hW7]
  have hz : W7.heap[W6.heap.size + 1]? = some (.cells #[.string ⟨#[117, 97, 103, 118]⟩, .string ⟨#[118, 50]⟩, .string mx, .string vx, .string kx] 9) := by
    rw [← hW7]
    have := World.alloc_heap_new (W6.alloc (.cells #[.string mx, .string vx, .string kx] 23)) (.cells #[.string ⟨#[117, 97, 103, 118]⟩, .string ⟨#[118, 50]⟩, .string mx, .string vx, .string kx] 9)
    rw [World.size_alloc] at this
    exact this
  have HB7 : Aside0 (Below w.heap.size w W7) := ⟨by rw [← hW7]; exact (HB6.out.alloc HB6.out.size _).alloc (by have := HB6.out.size; simp; omega) _⟩
  have HZ := Aside0.mk hz
  clear hz hW7 HB6
  generalize W6.heap.size + 1 = N at HZ ⊢
  refine (humpyardlaw07_pick.calls pt 5 q W7 hq).mono ?_
  rintro e W8 ⟨rfl, hb0⟩
  have hb : Below W7.heap.size W7 W8 := hb0.below
  have HB8 : Aside0 (Below w.heap.size w W8) := ⟨HB7.out.trans (hb.mono HB7.out.size)⟩
  have HZ8 := Aside0.mk ((hb.block _ (lt_some HZ.out)).trans HZ.out)
  clear hb hb0 HZ HB7 hq
  have cell : Aside0 (∀ i, i < 5 → W8.cell? ⟨N, i, none⟩ = some (.string ((five mx vx kx).getD i ByteArray.empty))) := ⟨fun i hi => by
    have : i = 0 ∨ i = 1 ∨ i = 2 ∨ i = 3 ∨ i = 4 := by omega
    rcases this with rfl | rfl | rfl | rfl | rfl <;> simp [World.cell?, HZ8.out, five, uB, wB, bs]⟩
  have SZ : Aside0 (∀ i, (stF (five mx vx kx) q.toNat i).1.size ≤ 17 * i) := ⟨stF_size _ _ (five_size HX.out.2.2)⟩
  have SF : Aside0 (∀ i, ((five mx vx kx).getD i ByteArray.empty).size ≤ 16) := ⟨five_size HX.out.2.2⟩
  obtain ⟨qn, rfl⟩ : ∃ n : Nat, q = (n : Int) := ⟨q.toNat, by omega⟩
  rw [Int.toNat_natCast] at SZ
  go_wp2
  go_loop [19, 20, 21] (fun a b c => ∃ i : Nat, i ≤ 5 ∧ a = .string (stF (five mx vx kx) qn i).1 ∧ b = .string (stF (five mx vx kx) qn i).2 ∧ c = .int .i64 i) (fun _ _ c => 5 - (intOf c).toNat)
  case atStart => exact ⟨0, by omega, rfl, rfl, rfl⟩
  case round =>
    obtain ⟨i, hi, rfl, rfl, rfl⟩ := hrel
    by_cases hlt : i < 5
    · have hc := cell.out i hlt
      have hs := SZ.out i
      have hf := SF.out i
      have hst1 : (stF (five mx vx kx) qn (i + 1)).1 = if i < 4 then ((stF (five mx vx kx) qn i).1 ++ (if i = qn then plusB else (five mx vx kx).getD i ByteArray.empty)) ++ ⟨#[47]⟩ else (stF (five mx vx kx) qn i).1 ++ (if i = qn then plusB else (five mx vx kx).getD i ByteArray.empty) := by rw [stF]
      have hst2 : (stF (five mx vx kx) qn (i + 1)).2 = if i = qn then (stF (five mx vx kx) qn i).1 ++ hashB else (stF (five mx vx kx) qn i).2 := by rw [stF]
      have HST := Aside0.mk (And.intro hst1 hst2)
      clear hst1 hst2
      generalize hA : (stF (five mx vx kx) qn i).1 = A at hs HST
      generalize hB : (stF (five mx vx kx) qn i).2 = B at HST
      generalize hF : (five mx vx kx).getD i ByteArray.empty = F at hf hc HST
      have HE := Aside0.mk (And.intro hA (And.intro hB hF))
      clear hA hB hF
      have u1 : ¬ (9223372036854775807 < A.size + 1) := by omega
      have u2 : ¬ (9223372036854775807 < A.size + F.size) := by omega
      have u3 : ¬ (9223372036854775807 < A.size + F.size + 1) := by omega
      have u4 : ¬ (9223372036854775807 < A.size + 1 + 1) := by omega
      by_cases hq : i = qn
      · subst hq
        by_cases h4 : i < 4
        · go_wp2
          exact ⟨⟨i + 1, by omega, by rw [HST.out.1]; simp [h4, plusB], by rw [HST.out.2]; simp [hashB], by go_num⟩, by simp [intOf]; omega⟩
        · go_wp2
          exact ⟨⟨i + 1, by omega, by rw [HST.out.1]; simp [h4, plusB], by rw [HST.out.2]; simp [hashB], by go_num⟩, by simp [intOf]; omega⟩
      · have e1 : ((i : Int) == (qn : Int)) = false := beq_eq_false_iff_ne.2 (by omega)
        by_cases h4 : i < 4
        · go_wp2
          exact ⟨⟨i + 1, by omega, by rw [HST.out.1]; simp [h4, hq], by rw [HST.out.2]; simp [hq], by go_num⟩, by simp [intOf]; omega⟩
        · go_wp2
          exact ⟨⟨i + 1, by omega, by rw [HST.out.1]; simp [h4, hq], by rw [HST.out.2]; simp [hq], by go_num⟩, by simp [intOf]; omega⟩
    · obtain rfl : i = 5 := by omega
      have HF := Aside0.mk (filters_say HX.out.2.2 HY.out.2.2 qn (by omega))
      have hsx := text_size HX.out.2.2
      clear SZ SF cell HZ8
      generalize textOf mx vx kx = X at HF hsx ⊢
      generalize textOf my vy ky = Y at HF ⊢
      generalize (stF (five mx vx kx) qn 5).1 = P at HF ⊢
      generalize (stF (five mx vx kx) qn 5).2 = H at HF ⊢
      have u1 : ¬ (9223372036854775807 < X.size + 2) := by omega
      go_wp2_with fail
      refine (topic_Match.calls X X true W8 HF.out.1).mono ?_
      rintro e V1 ⟨rfl, hb⟩
      have HV1 : Aside0 (Below w.heap.size w V1) := ⟨HB8.out.trans (hb.mono HB8.out.size)⟩
      clear hb
      go_wp2_with fail
      refine (topic_Match.calls P X true V1 HF.out.2.1).mono ?_
      rintro e V2 ⟨rfl, hb⟩
      have HV2 : Aside0 (Below w.heap.size w V2) := ⟨HV1.out.trans (hb.mono HV1.out.size)⟩
      clear hb HV1
      go_wp2_with fail
      refine (topic_Match.calls H X true V2 HF.out.2.2.1).mono ?_
      rintro e V3 ⟨rfl, hb⟩
      have HV3 : Aside0 (Below w.heap.size w V3) := ⟨HV2.out.trans (hb.mono HV2.out.size)⟩
      clear hb HV2
      go_wp2_with fail
      refine (topic_Match.calls ⟨#[35]⟩ X true V3 HF.out.2.2.2.1).mono ?_
      rintro e V4 ⟨rfl, hb⟩
      have HV4 : Aside0 (Below w.heap.size w V4) := ⟨HV3.out.trans (hb.mono HV3.out.size)⟩
      clear hb HV3
      cases hxy : (X.toList == Y.toList)
      all_goals
        go_wp2_with fail
        refine (topic_Match.calls X Y (X.toList == Y.toList) V4 HF.out.2.2.2.2.1).mono ?_
        rw [hxy]
        rintro e V5 ⟨rfl, hb⟩
        have HV5 : Aside0 (Below w.heap.size w V5) := ⟨HV4.out.trans (hb.mono HV4.out.size)⟩
        clear hb HV4
        go_wp2_with fail
        refine (topic_Match.calls X _ false V5 HF.out.2.2.2.2.2.1).mono ?_
        rintro e V6 ⟨rfl, hb⟩
        have HV6 : Aside0 (Below w.heap.size w V6) := ⟨HV5.out.trans (hb.mono HV5.out.size)⟩
        clear hb HV5
        go_wp2_with fail
        refine (topic_Match.calls _ X false V6 HF.out.2.2.2.2.2.2.1).mono ?_
        rintro e V7 ⟨rfl, hb⟩
        have HV7 : Aside0 (Below w.heap.size w V7) := ⟨HV6.out.trans (hb.mono HV6.out.size)⟩
        clear hb HV6
        go_wp2_with fail
        refine (topic_Match.calls _ X true V7 HF.out.2.2.2.2.2.2.2).mono ?_
        rintro e V8 ⟨rfl, hb⟩
        have HV8 : Aside0 (Below w.heap.size w V8) := ⟨HV7.out.trans (hb.mono HV7.out.size)⟩
        clear hb HV7
        go_wp2_with fail
        go_ret
        exact ⟨rfl, HV8.out⟩
#print axioms humpyardlaw07_TopicFilters.calls
end Go.Proofs.YtcioahjfmmhiiaaDoor.PA
