-- written by wip/myprint.py: the kit's print, run with externs
import Derived.Test.YtcioahjfmmhiiaaDoorPAx0
import Derived.Test.YtcioahjfmmhiiaaDoorPAe23
import Derived.Test.YtcioahjfmmhiiaaDoorPAf11
import Derived.Test.YtcioahjfmmhiiaaDoorPAf7
import Derived.Test.YtcioahjfmmhiiaaDoorPAf10
import Derived.Test.YtcioahjfmmhiiaaDoorPAf8
import Derived.Test.YtcioahjfmmhiiaaDoorEParse
namespace Go.Proofs.YtcioahjfmmhiiaaDoor.PA
open Go.RowKit Go.Proofs.YtcioahjfmmhiiaaDoorW.PrintWords Go.Proofs.YtcioahjfmmhiiaaDoorW.PrintLast Go.Proofs.YtcioahjfmmhiiaaDoorW.PrintMore
attribute [local go_sem] max2_int min2_int max_two min_two max_three min_three max_four min_four   -- for this text's walks alone
set_option linter.unusedVariables false
set_option linter.unusedSimpArgs false

attribute [local go_sem high] eqA23
/-! ### humpyardlaw07_TopicForth: function 5 -/
def humpyardlaw07_TopicForth.l0 : Nat → Bool → List ByteArray → Int → Int → Option (Bool)
  | 0, _, _, _, _ => none
  | k + 1, x11, x60, x61, x62 => if x62 < x61 then (if 0 ≤ x62 then (if x62 < (x60.length : Int) then ((topic_Parse.f (rdOf ByteArray.empty x60 x62)).bind fun bt233 => (if bt233.2.2.2 = 0 then ((topic_Print.f k bt233.1 bt233.2.1 bt233.2.2.1).bind fun bt238 => (if bt238.2 = 0 then (if bt238.1.toList = (rdOf ByteArray.empty x60 x62).toList then (humpyardlaw07_TopicForth.l0 k x11 x60 x61 (wrap64 (x62 + 1))) else (none)) else (none))) else (if (!(bt233.1.toList == ([] : List UInt8)) || (!(bt233.2.1.toList == ([] : List UInt8)) || (!(bt233.2.2.1.toList == ([] : List UInt8))))) = true then (none) else (humpyardlaw07_TopicForth.l0 k x11 x60 x61 (wrap64 (x62 + 1)))))) else (none)) else (none)) else (some x11)
def humpyardlaw07_TopicForth.f (k : Nat) (a0 : ByteArray) (a1 : ByteArray) (a2 : Int) (a3 : Int) (a4 : ByteArray) : Option (Bool) := (humpyardlaw07_awake.f k).bind fun t222 => ((humpyardlaw07_Topic.f a1 a0 a2).bind fun bt223 => ((topic_Print.f k bt223.1 bt223.2.1 bt223.2.2).bind fun bt226 => ((humpyardlaw07_pick.f a3 (wrap64 ((bt226.1.size : Int) + 1))).bind fun t228 => (if 0 ≤ t228 then (if t228 ≤ (bt226.1.size : Int) then (if (bt226.1.extract 0 (t228 : Int).toNat).size + a4.size ≤ 9223372036854775807 then (if 0 ≤ (mn (wrap64 (t228 + (a4.size : Int))) (bt226.1.size : Int)) then (if (mn (wrap64 (t228 + (a4.size : Int))) (bt226.1.size : Int)) ≤ (bt226.1.size : Int) then (if ((bt226.1.extract 0 (t228 : Int).toNat) ++ a4).size + (bt226.1.extract ((mn (wrap64 (t228 + (a4.size : Int))) (bt226.1.size : Int)) : Int).toNat bt226.1.size).size ≤ 9223372036854775807 then (if ((bt226.1.extract 0 (t228 : Int).toNat) ++ a4).size + (bt226.1.extract (t228 : Int).toNat bt226.1.size).size ≤ 9223372036854775807 then ((some (([a0, ((bt226.1.extract 0 (t228 : Int).toNat) ++ a4) ++ (bt226.1.extract ((mn (wrap64 (t228 + (a4.size : Int))) (bt226.1.size : Int)) : Int).toNat bt226.1.size), ((bt226.1.extract 0 (t228 : Int).toNat) ++ a4) ++ (bt226.1.extract (t228 : Int).toNat bt226.1.size)] : List ByteArray) : List ByteArray)).bind fun y229 => (humpyardlaw07_TopicForth.l0 k t222 y229 (y229.length : Int) 0)) else (none)) else (none)) else (none)) else (none)) else (none)) else (none)) else (none)))))
theorem humpyardlaw07_TopicForth.mono_l : ∀ k, (∀ y0 y1 y2 y3, LeO (humpyardlaw07_TopicForth.l0 k y0 y1 y2 y3) (humpyardlaw07_TopicForth.l0 (k + 1) y0 y1 y2 y3))
  | 0 => fun _ _ _ _ r h => by simp [humpyardlaw07_TopicForth.l0] at h
  | k + 1 => by
    have ih0 := humpyardlaw07_TopicForth.mono_l k
    · intro y0 y1 y2 y3
      unfold humpyardlaw07_TopicForth.l0
      repeat' first
      | (with_reducible exact ih0 _ _ _ _)
      | (with_reducible exact humpyardlaw07_awake.mono _)
      | (with_reducible exact topic_Print.mono _ _ _ _)
      | (with_reducible exact LeO.refl _)
      | (with_reducible exact LeO.none _)
      | (with_reducible refine LeO.ite ?_ ?_)
      | (with_reducible refine LeO.bind ?_ (fun _ => ?_))
      | exact ih0 _ _ _ _
      | exact humpyardlaw07_awake.mono _
      | exact topic_Print.mono _ _ _ _
      | exact LeO.none _
      | refine LeO.ite ?_ ?_
      | refine LeO.bind ?_ (fun _ => ?_)
theorem humpyardlaw07_TopicForth.mono : ∀ a0 a1 a2 a3 a4 k, LeO (humpyardlaw07_TopicForth.f k a0 a1 a2 a3 a4) (humpyardlaw07_TopicForth.f (k + 1) a0 a1 a2 a3 a4) := by
  intro a0 a1 a2 a3 a4 k
  have ih0 := humpyardlaw07_TopicForth.mono_l k
  unfold humpyardlaw07_TopicForth.f
  repeat' first
      | (with_reducible exact ih0 _ _ _ _)
      | (with_reducible exact humpyardlaw07_awake.mono _)
      | (with_reducible exact topic_Print.mono _ _ _ _)
      | (with_reducible exact LeO.refl _)
      | (with_reducible exact LeO.none _)
      | (with_reducible refine LeO.ite ?_ ?_)
      | (with_reducible refine LeO.bind ?_ (fun _ => ?_))
      | exact ih0 _ _ _ _
      | exact humpyardlaw07_awake.mono _
      | exact topic_Print.mono _ _ _ _
      | exact LeO.none _
      | refine LeO.ite ?_ ?_
      | refine LeO.bind ?_ (fun _ => ?_)
def humpyardlaw07_TopicForth.T4 : Bool × List (List Nat × List Nat) := (true, [([], []), ([], []), ([], []), ([1, 2], [1, 2]), ([], []), ([3, 4], [3, 4]), ([], []), ([], []), ([], []), ([8], [8]), ([7, 9], [7, 9]), ([], []), ([11], [11]), ([10, 12], [10, 12]), ([6, 13], [6, 13]), ([5, 14], [5, 14]), ([], []), ([], []), ([16, 17], [16, 17]), ([], []), ([18, 19], [18, 19]), ([], []), ([], []), ([21, 22], [21, 22]), ([20, 23], [20, 23]), ([0, 15, 24], [0, 15, 24]), ([25], [25]), ([], [])])
def humpyardlaw07_TopicForth.B4 : List Nat := [0, 0, 0, 6, 0, 30, 0, 0, 0, 256, 896, 0, 2048, 8064, 16320, 32766, 0, 0, 196608, 0, 983040, 0, 0, 6291456, 16711680, 33554431, 67108863, 0]
theorem humpyardlaw07_TopicForth.tab4 : rtab .any (opsOf Tryd.f5 4) = humpyardlaw07_TopicForth.T4 := by kernel_rfl
theorem humpyardlaw07_TopicForth.bits4 : waitsOk humpyardlaw07_TopicForth.T4.2 humpyardlaw07_TopicForth.B4 = true := by kernel_rfl
set_option maxHeartbeats 8000000 in
set_option maxRecDepth 100000 in
theorem humpyardlaw07_TopicForth.calls (k : Nat) (a0 : ByteArray) (a1 : ByteArray) (a2 : Int) (a3 : Int) (a4 : ByteArray) (r : Bool) (w : World) (h : humpyardlaw07_TopicForth.f k a0 a1 a2 a3 a4 = some r) :
    Calls Tryd.prog 5 #[.string a0, .string a1, .int .i64 a2, .int .i64 a3, .string a4] w fun e w' => e = .returned (.bool r) ∧ Below w.heap.size w w' := by
  have hu23 := Tryd.underlying23
  have HB := Aside0.mk (Below.refl w.heap.size w)
  have H : ((humpyardlaw07_awake.f k).bind fun t222 => ((humpyardlaw07_Topic.f a1 a0 a2).bind fun bt223 => ((topic_Print.f k bt223.1 bt223.2.1 bt223.2.2).bind fun bt226 => ((humpyardlaw07_pick.f a3 (wrap64 ((bt226.1.size : Int) + 1))).bind fun t228 => (if 0 ≤ t228 then (if t228 ≤ (bt226.1.size : Int) then (if (bt226.1.extract 0 (t228 : Int).toNat).size + a4.size ≤ 9223372036854775807 then (if 0 ≤ (mn (wrap64 (t228 + (a4.size : Int))) (bt226.1.size : Int)) then (if (mn (wrap64 (t228 + (a4.size : Int))) (bt226.1.size : Int)) ≤ (bt226.1.size : Int) then (if ((bt226.1.extract 0 (t228 : Int).toNat) ++ a4).size + (bt226.1.extract ((mn (wrap64 (t228 + (a4.size : Int))) (bt226.1.size : Int)) : Int).toNat bt226.1.size).size ≤ 9223372036854775807 then (if ((bt226.1.extract 0 (t228 : Int).toNat) ++ a4).size + (bt226.1.extract (t228 : Int).toNat bt226.1.size).size ≤ 9223372036854775807 then ((some (([a0, ((bt226.1.extract 0 (t228 : Int).toNat) ++ a4) ++ (bt226.1.extract ((mn (wrap64 (t228 + (a4.size : Int))) (bt226.1.size : Int)) : Int).toNat bt226.1.size), ((bt226.1.extract 0 (t228 : Int).toNat) ++ a4) ++ (bt226.1.extract (t228 : Int).toNat bt226.1.size)] : List ByteArray) : List ByteArray)).bind fun y229 => (humpyardlaw07_TopicForth.l0 k t222 y229 (y229.length : Int) 0)) else (none)) else (none)) else (none)) else (none)) else (none)) else (none)) else (none)))))) = some r := h
  clear h
  replace H := Option.bind_eq_some_iff.mp H
  obtain ⟨t222, A60, H⟩ := H
  replace H : ((humpyardlaw07_Topic.f a1 a0 a2).bind fun bt223 => ((topic_Print.f k bt223.1 bt223.2.1 bt223.2.2).bind fun bt226 => ((humpyardlaw07_pick.f a3 (wrap64 ((bt226.1.size : Int) + 1))).bind fun t228 => (if 0 ≤ t228 then (if t228 ≤ (bt226.1.size : Int) then (if (bt226.1.extract 0 (t228 : Int).toNat).size + a4.size ≤ 9223372036854775807 then (if 0 ≤ (mn (wrap64 (t228 + (a4.size : Int))) (bt226.1.size : Int)) then (if (mn (wrap64 (t228 + (a4.size : Int))) (bt226.1.size : Int)) ≤ (bt226.1.size : Int) then (if ((bt226.1.extract 0 (t228 : Int).toNat) ++ a4).size + (bt226.1.extract ((mn (wrap64 (t228 + (a4.size : Int))) (bt226.1.size : Int)) : Int).toNat bt226.1.size).size ≤ 9223372036854775807 then (if ((bt226.1.extract 0 (t228 : Int).toNat) ++ a4).size + (bt226.1.extract (t228 : Int).toNat bt226.1.size).size ≤ 9223372036854775807 then ((some (([a0, ((bt226.1.extract 0 (t228 : Int).toNat) ++ a4) ++ (bt226.1.extract ((mn (wrap64 (t228 + (a4.size : Int))) (bt226.1.size : Int)) : Int).toNat bt226.1.size), ((bt226.1.extract 0 (t228 : Int).toNat) ++ a4) ++ (bt226.1.extract (t228 : Int).toNat bt226.1.size)] : List ByteArray) : List ByteArray)).bind fun y229 => (humpyardlaw07_TopicForth.l0 k t222 y229 (y229.length : Int) 0)) else (none)) else (none)) else (none)) else (none)) else (none)) else (none)) else (none))))) = some r := H
  have A6 := Aside0.mk A60
  clear A60
  replace H := Option.bind_eq_some_iff.mp H
  obtain ⟨⟨t223, t224, t225⟩, A70, H⟩ := H
  replace H : ((topic_Print.f k t223 t224 t225).bind fun bt226 => ((humpyardlaw07_pick.f a3 (wrap64 ((bt226.1.size : Int) + 1))).bind fun t228 => (if 0 ≤ t228 then (if t228 ≤ (bt226.1.size : Int) then (if (bt226.1.extract 0 (t228 : Int).toNat).size + a4.size ≤ 9223372036854775807 then (if 0 ≤ (mn (wrap64 (t228 + (a4.size : Int))) (bt226.1.size : Int)) then (if (mn (wrap64 (t228 + (a4.size : Int))) (bt226.1.size : Int)) ≤ (bt226.1.size : Int) then (if ((bt226.1.extract 0 (t228 : Int).toNat) ++ a4).size + (bt226.1.extract ((mn (wrap64 (t228 + (a4.size : Int))) (bt226.1.size : Int)) : Int).toNat bt226.1.size).size ≤ 9223372036854775807 then (if ((bt226.1.extract 0 (t228 : Int).toNat) ++ a4).size + (bt226.1.extract (t228 : Int).toNat bt226.1.size).size ≤ 9223372036854775807 then ((some (([a0, ((bt226.1.extract 0 (t228 : Int).toNat) ++ a4) ++ (bt226.1.extract ((mn (wrap64 (t228 + (a4.size : Int))) (bt226.1.size : Int)) : Int).toNat bt226.1.size), ((bt226.1.extract 0 (t228 : Int).toNat) ++ a4) ++ (bt226.1.extract (t228 : Int).toNat bt226.1.size)] : List ByteArray) : List ByteArray)).bind fun y229 => (humpyardlaw07_TopicForth.l0 k t222 y229 (y229.length : Int) 0)) else (none)) else (none)) else (none)) else (none)) else (none)) else (none)) else (none)))) = some r := H
  have A7 := Aside0.mk A70
  clear A70
  replace H := Option.bind_eq_some_iff.mp H
  obtain ⟨⟨t226, t227⟩, A80, H⟩ := H
  replace H : ((humpyardlaw07_pick.f a3 (wrap64 ((t226.size : Int) + 1))).bind fun t228 => (if 0 ≤ t228 then (if t228 ≤ (t226.size : Int) then (if (t226.extract 0 (t228 : Int).toNat).size + a4.size ≤ 9223372036854775807 then (if 0 ≤ (mn (wrap64 (t228 + (a4.size : Int))) (t226.size : Int)) then (if (mn (wrap64 (t228 + (a4.size : Int))) (t226.size : Int)) ≤ (t226.size : Int) then (if ((t226.extract 0 (t228 : Int).toNat) ++ a4).size + (t226.extract ((mn (wrap64 (t228 + (a4.size : Int))) (t226.size : Int)) : Int).toNat t226.size).size ≤ 9223372036854775807 then (if ((t226.extract 0 (t228 : Int).toNat) ++ a4).size + (t226.extract (t228 : Int).toNat t226.size).size ≤ 9223372036854775807 then ((some (([a0, ((t226.extract 0 (t228 : Int).toNat) ++ a4) ++ (t226.extract ((mn (wrap64 (t228 + (a4.size : Int))) (t226.size : Int)) : Int).toNat t226.size), ((t226.extract 0 (t228 : Int).toNat) ++ a4) ++ (t226.extract (t228 : Int).toNat t226.size)] : List ByteArray) : List ByteArray)).bind fun y229 => (humpyardlaw07_TopicForth.l0 k t222 y229 (y229.length : Int) 0)) else (none)) else (none)) else (none)) else (none)) else (none)) else (none)) else (none))) = some r := H
  have A8 := Aside0.mk A80
  clear A80
  replace H := Option.bind_eq_some_iff.mp H
  obtain ⟨t228, A90, H⟩ := H
  replace H : (if 0 ≤ t228 then (if t228 ≤ (t226.size : Int) then (if (t226.extract 0 (t228 : Int).toNat).size + a4.size ≤ 9223372036854775807 then (if 0 ≤ (mn (wrap64 (t228 + (a4.size : Int))) (t226.size : Int)) then (if (mn (wrap64 (t228 + (a4.size : Int))) (t226.size : Int)) ≤ (t226.size : Int) then (if ((t226.extract 0 (t228 : Int).toNat) ++ a4).size + (t226.extract ((mn (wrap64 (t228 + (a4.size : Int))) (t226.size : Int)) : Int).toNat t226.size).size ≤ 9223372036854775807 then (if ((t226.extract 0 (t228 : Int).toNat) ++ a4).size + (t226.extract (t228 : Int).toNat t226.size).size ≤ 9223372036854775807 then ((some (([a0, ((t226.extract 0 (t228 : Int).toNat) ++ a4) ++ (t226.extract ((mn (wrap64 (t228 + (a4.size : Int))) (t226.size : Int)) : Int).toNat t226.size), ((t226.extract 0 (t228 : Int).toNat) ++ a4) ++ (t226.extract (t228 : Int).toNat t226.size)] : List ByteArray) : List ByteArray)).bind fun y229 => (humpyardlaw07_TopicForth.l0 k t222 y229 (y229.length : Int) 0)) else (none)) else (none)) else (none)) else (none)) else (none)) else (none)) else (none)) = some r := H
  have A9 := Aside0.mk A90
  clear A90
  by_cases c10 : 0 ≤ t228
  · rw [if_pos c10] at H
    have c10b0 := eq_true c10
    have c10b1 : decide (0 ≤ t228) = true := decide_eq_true c10
    clear c10
    by_cases c11 : t228 ≤ (t226.size : Int)
    · rw [if_pos c11] at H
      have c11b0 := eq_true c11
      have c11b1 : decide (t228 ≤ (t226.size : Int)) = true := decide_eq_true c11
      clear c11
      by_cases c12 : (t226.extract 0 (t228 : Int).toNat).size + a4.size ≤ 9223372036854775807
      · rw [if_pos c12] at H
        have c12b0 := eq_true c12
        have c12b1 : decide ((t226.extract 0 (t228 : Int).toNat).size + a4.size ≤ 9223372036854775807) = true := decide_eq_true c12
        try have c12b2 : (9223372036854775807 < (t226.extract 0 (t228 : Int).toNat).size + a4.size) = False := eq_false (Nat.not_lt.2 c12)
        have c12b3 : ¬ (9223372036854775807 < (t228).toNat + a4.size) := by -- SIZES
          have z_ := c12
          simp only [ByteArray.size_append, ByteArray.size_extract] at z_
          have q0_ : t228 ≤ (t226.size : Int) := of_decide_eq_true (by first | (with_reducible assumption) | assumption)
          have r0_ : 0 ≤ t228 := of_decide_eq_true (by first | (with_reducible assumption) | assumption)
          clear c12b0 c12b1
          omega
        obtain ⟨ji13, hji13⟩ : ∃ j_ : Int, (mn (wrap64 (t228 + (a4.size : Int))) (t226.size : Int)) = j_ := ⟨_, rfl⟩
        replace H : (if 0 ≤ (ji13) then (if (ji13) ≤ (t226.size : Int) then (if ((t226.extract 0 (t228 : Int).toNat) ++ a4).size + (t226.extract ((ji13) : Int).toNat t226.size).size ≤ 9223372036854775807 then (if ((t226.extract 0 (t228 : Int).toNat) ++ a4).size + (t226.extract (t228 : Int).toNat t226.size).size ≤ 9223372036854775807 then ((some (([a0, ((t226.extract 0 (t228 : Int).toNat) ++ a4) ++ (t226.extract ((ji13) : Int).toNat t226.size), ((t226.extract 0 (t228 : Int).toNat) ++ a4) ++ (t226.extract (t228 : Int).toNat t226.size)] : List ByteArray) : List ByteArray)).bind fun y229 => (humpyardlaw07_TopicForth.l0 k t222 y229 (y229.length : Int) 0)) else (none)) else (none)) else (none)) else (none)) = some r := by first | (rw [hji13] at H; exact H) | (simp only [hji13] at H ⊢; exact H)
        (try rw [hji13] at A6)
        (try rw [hji13] at A7)
        (try rw [hji13] at A8)
        (try rw [hji13] at A9)
        have hji13_ : (if (t226.size : Int) < (wrap64 (t228 + (a4.size : Int))) then (t226.size : Int) else (wrap64 (t228 + (a4.size : Int)))) = ji13 := hji13
        by_cases c14 : 0 ≤ (ji13)
        · rw [if_pos c14] at H
          have c14b0 := eq_true c14
          have c14b1 : decide (0 ≤ (ji13)) = true := decide_eq_true c14
          clear c14
          by_cases c15 : (ji13) ≤ (t226.size : Int)
          · rw [if_pos c15] at H
            have c15b0 := eq_true c15
            have c15b1 : decide ((ji13) ≤ (t226.size : Int)) = true := decide_eq_true c15
            clear c15
            by_cases c16 : ((t226.extract 0 (t228 : Int).toNat) ++ a4).size + (t226.extract ((ji13) : Int).toNat t226.size).size ≤ 9223372036854775807
            · rw [if_pos c16] at H
              have c16b0 := eq_true c16
              have c16b1 : decide (((t226.extract 0 (t228 : Int).toNat) ++ a4).size + (t226.extract ((ji13) : Int).toNat t226.size).size ≤ 9223372036854775807) = true := decide_eq_true c16
              try have c16b2 : (9223372036854775807 < ((t226.extract 0 (t228 : Int).toNat) ++ a4).size + (t226.extract ((ji13) : Int).toNat t226.size).size) = False := eq_false (Nat.not_lt.2 c16)
              have c16b3 : ¬ (9223372036854775807 < ((t228).toNat + a4.size) + (t226.size - (ji13).toNat)) := by -- SIZES
                have z_ := c16
                simp only [ByteArray.size_append, ByteArray.size_extract] at z_
                have q0_ : t228 ≤ (t226.size : Int) := of_decide_eq_true (by first | (with_reducible assumption) | assumption)
                have r0_ : 0 ≤ t228 := of_decide_eq_true (by first | (with_reducible assumption) | assumption)
                have s0_ : ji13 ≤ (t226.size : Int) := of_decide_eq_true (by first | (with_reducible assumption) | assumption)
                have t0_ : 0 ≤ ji13 := of_decide_eq_true (by first | (with_reducible assumption) | assumption)
                clear c16b0 c16b1
                omega
              have c17b0 := eq_true (of_decide_eq_true (by first | (with_reducible assumption) | assumption) : 0 ≤ t228)
              have c18b0 := eq_true (of_decide_eq_true (by first | (with_reducible assumption) | assumption) : t228 ≤ (t226.size : Int))
              have c19b0 := eq_true (of_decide_eq_true (by first | (with_reducible assumption) | assumption) : 0 ≤ t228)
              have c20b0 := eq_true (of_decide_eq_true (by first | (with_reducible assumption) | assumption) : t228 ≤ (t226.size : Int))
              by_cases c21 : ((t226.extract 0 (t228 : Int).toNat) ++ a4).size + (t226.extract (t228 : Int).toNat t226.size).size ≤ 9223372036854775807
              · rw [if_pos c21] at H
                have c21b0 := eq_true c21
                have c21b1 : decide (((t226.extract 0 (t228 : Int).toNat) ++ a4).size + (t226.extract (t228 : Int).toNat t226.size).size ≤ 9223372036854775807) = true := decide_eq_true c21
                try have c21b2 : (9223372036854775807 < ((t226.extract 0 (t228 : Int).toNat) ++ a4).size + (t226.extract (t228 : Int).toNat t226.size).size) = False := eq_false (Nat.not_lt.2 c21)
                have c21b3 : ¬ (9223372036854775807 < ((t228).toNat + a4.size) + (t226.size - (t228).toNat)) := by -- SIZES
                  have z_ := c21
                  simp only [ByteArray.size_append, ByteArray.size_extract] at z_
                  have q0_ : t228 ≤ (t226.size : Int) := of_decide_eq_true (by first | (with_reducible assumption) | assumption)
                  have r0_ : 0 ≤ t228 := of_decide_eq_true (by first | (with_reducible assumption) | assumption)
                  clear c21b0 c21b1
                  omega
                obtain ⟨y229, hy229⟩ : ∃ y_ : List ByteArray, y_ = (([a0, ((t226.extract 0 (t228 : Int).toNat) ++ a4) ++ (t226.extract ((ji13) : Int).toNat t226.size), ((t226.extract 0 (t228 : Int).toNat) ++ a4) ++ (t226.extract (t228 : Int).toNat t226.size)] : List ByteArray)) := ⟨_, rfl⟩
                replace H : (humpyardlaw07_TopicForth.l0 k t222 y229 (y229.length : Int) 0) = some r := by first | (rw [hy229]; with_reducible exact H) | (have H2_ := (Option.bind_some _ _).symm.trans H; rw [hy229]; with_reducible exact H2_) | (have H2_ := (Option.bind_some _ _).symm.trans H; with_reducible exact H2_) | with_reducible exact H | (rw [hy229]; exact H) | exact H
                have Ny229 := Aside0.mk hy229
                clear hy229
                have H' := Aside0.mk H
                clear H
                go_enter Tryd.func5, Tryd.ntmps5
                try go_wp2_with (first | ((with_reducible refine gate_callee (f := 7) rfl ?_); refine goesL_ (some 21) rfl rfl Tryd.func7 (by kernel_rfl) rfl #[] rfl (by (try simp only [List.map_toArray, List.map_cons, List.map_nil]); first | done | rfl | (simp only [List.length_drop, List.length_take]; rfl)) ?_; (with_reducible refine (humpyardlaw07_awake.calls k  t222 _ A6.out).mono ?_); rintro e w22 ⟨rfl, hb⟩; refine ⟨_, rfl, ?_⟩; have n0_ := Aside0.mk (below_step (by repeat (first | (with_reducible first | exact HB.out | apply below_alloc | apply pw_below_drewN | apply below_drew1) | exact HB.out)) hb); clear HB; have HB := n0_; clear n0_; (try clear hb); (try clear hb2); (try clear hk); (try clear hi)) | ((with_reducible refine gate_callee (f := 8) rfl ?_); refine goesL_ (some 26) rfl rfl Tryd.func8 (by kernel_rfl) rfl #[.string a1, .string a0, .int .i64 a2] rfl (by (try simp only [List.map_toArray, List.map_cons, List.map_nil]); first | done | rfl | (simp only [List.length_drop, List.length_take]; rfl)) ?_; (with_reducible refine (humpyardlaw07_Topic.calls a1 a0 a2 t223 t224 t225 _ A7.out).mono ?_); rintro e w23 ⟨rfl, hb⟩; refine ⟨_, rfl, ?_⟩; have n0_ := Aside0.mk (below_step (by repeat (first | (with_reducible first | exact HB.out | apply below_alloc | apply pw_below_drewN | apply below_drew1) | exact HB.out)) hb); clear HB; have HB := n0_; clear n0_; (try clear hb); (try clear hb2); (try clear hk); (try clear hi)) | ((with_reducible refine gate_callee (f := 11) rfl ?_); refine goesL_ (some 27) rfl rfl Tryd.func11 (by kernel_rfl) rfl #[.agg #[.string t223, .string t224, .string t225]] rfl (by (try simp only [List.map_toArray, List.map_cons, List.map_nil]); first | done | rfl | (simp only [List.length_drop, List.length_take]; rfl)) ?_; (with_reducible refine (topic_Print.calls k t223 t224 t225 t226 t227 _ A8.out).mono ?_); rintro e w24 ⟨rfl, hb⟩; refine ⟨_, rfl, ?_⟩; have n0_ := Aside0.mk (below_step (by repeat (first | (with_reducible first | exact HB.out | apply below_alloc | apply pw_below_drewN | apply below_drew1) | exact HB.out)) hb); clear HB; have HB := n0_; clear n0_; (try clear hb); (try clear hb2); (try clear hk); (try clear hi)) | ((with_reducible refine gate_callee (f := 10) rfl ?_); refine goesL_ (some 34) rfl rfl Tryd.func10 (by kernel_rfl) rfl #[.int .i64 a3, .int .i64 (wrap64 ((t226.size : Int) + 1))] rfl (by (try simp only [List.map_toArray, List.map_cons, List.map_nil]); first | done | rfl | (simp only [List.length_drop, List.length_take]; rfl)) ?_; (with_reducible refine (humpyardlaw07_pick.calls a3 (wrap64 ((t226.size : Int) + 1)) t228 _ A9.out).mono ?_); rintro e w' ⟨rfl, ⟨nd, rfl⟩⟩; refine ⟨_, rfl, ?_⟩))
                (try (rw [drewN_self w24]; generalize hq_ : World.drewN w24 _ = w24; have n0_ : Aside0 (Below w.heap.size w w24) := ⟨by rw [← hq_]; exact (by repeat (first | (with_reducible first | exact HB.out | apply below_alloc | apply pw_below_drewN | apply below_drew1) | exact HB.out))⟩; clear HB hq_; have HB := n0_; clear n0_))
                have n0_ := Aside0.mk (below_drew1 HB.out)
                clear HB
                have HB := n0_
                clear n0_
                refine start_ (n := 28) (S := fun w' => True) (ds := []) #[false, false, false, false, false, false, false, false, false, false, false, false, false, false, false, false, false, false, false, false, false, false, false, false, false, false, false, false] (by kernel_rfl) rfl rfl trivial (fun hHeld => ?_); refine with_tabW humpyardlaw07_TopicForth.tab4 humpyardlaw07_TopicForth.bits4 (fun HT_ HW_ => ?_)
                generalize w24.drew = w25 at HB hHeld ⊢
                refine pure_ (i := 0) (N := some 35) (v := ?_) (a' := ?_) #[true, false, false, false, false, false, false, false, false, false, false, false, false, false, false, false, false, false, false, false, false, false, false, false, false, false, false, false] rfl rfl (any_of HT_.out (by kernel_rfl)) (fun _ _ _ h => h) (Or.inl ⟨by rfl, ?_⟩) ?_ ?_
                rotate_left
                · intro w'
                  go_simp
                  with_reducible rfl
                rotate_left
                · simp only [Act.put, List.setIfInBounds_toArray, List.set_cons_zero, List.set_cons_succ, i64_w, i32_w]
                  rfl
                refine pure_ (i := 1) (N := some 36) (v := ?_) (a' := ?_) #[true, true, false, false, false, false, false, false, false, false, false, false, false, false, false, false, false, false, false, false, false, false, false, false, false, false, false, false] rfl rfl (any_of HT_.out (by kernel_rfl)) (fun _ _ _ h => h) (Or.inl ⟨by rfl, ?_⟩) ?_ ?_
                rotate_left
                · intro w'
                  go_simp
                  with_reducible rfl
                rotate_left
                · simp only [Act.put, List.setIfInBounds_toArray, List.set_cons_zero, List.set_cons_succ, i64_w, i32_w]
                  rfl
                refine pure_ (i := 2) (N := some 37) (v := ?_) (a' := ?_) #[true, true, true, false, false, false, false, false, false, false, false, false, false, false, false, false, false, false, false, false, false, false, false, false, false, false, false, false] rfl rfl (any_of HT_.out (by kernel_rfl)) (fun _ _ _ h => h) (Or.inl ⟨by rfl, ?_⟩) ?_ ?_
                rotate_left
                · intro w'
                  go_simp
                  with_reducible rfl
                rotate_left
                · simp only [Act.put, List.setIfInBounds_toArray, List.set_cons_zero, List.set_cons_succ, i64_w, i32_w]
                  rfl
                refine pure_ (i := 3) (N := some 38) (v := ?_) (a' := ?_) #[true, true, true, true, false, false, false, false, false, false, false, false, false, false, false, false, false, false, false, false, false, false, false, false, false, false, false, false] rfl rfl (any_of HT_.out (by kernel_rfl)) (fun _ _ _ h => h) (Or.inl ⟨by rfl, ?_⟩) ?_ ?_
                rotate_left
                · intro w'
                  go_simp
                  with_reducible rfl
                rotate_left
                · simp only [Act.put, List.setIfInBounds_toArray, List.set_cons_zero, List.set_cons_succ, i64_w, i32_w]
                  rfl
                refine pure_ (i := 4) (N := some 39) (v := ?_) (a' := ?_) #[true, true, true, true, true, false, false, false, false, false, false, false, false, false, false, false, false, false, false, false, false, false, false, false, false, false, false, false] rfl rfl (any_of HT_.out (by kernel_rfl)) (fun _ _ _ h => h) (Or.inl ⟨by rfl, ?_⟩) ?_ ?_
                rotate_left
                · intro w'
                  go_simp
                  with_reducible rfl
                rotate_left
                · simp only [Act.put, List.setIfInBounds_toArray, List.set_cons_zero, List.set_cons_succ, i64_w, i32_w]
                  rfl
                refine pure_ (i := 5) (N := some 40) (v := ?_) (a' := ?_) #[true, true, true, true, true, true, false, false, false, false, false, false, false, false, false, false, false, false, false, false, false, false, false, false, false, false, false, false] rfl rfl (any_of HT_.out (by kernel_rfl)) (fun _ _ _ h => h) (Or.inl ⟨by rfl, ?_⟩) ?_ ?_
                rotate_left
                · intro w'
                  go_simp
                  with_reducible rfl
                rotate_left
                · simp only [Act.put, List.setIfInBounds_toArray, List.set_cons_zero, List.set_cons_succ, i64_w, i32_w]
                  rfl
                refine pure_ (i := 6) (N := some 41) (v := ?_) (a' := ?_) #[true, true, true, true, true, true, true, false, false, false, false, false, false, false, false, false, false, false, false, false, false, false, false, false, false, false, false, false] rfl rfl (any_of HT_.out (by kernel_rfl)) (fun _ _ _ h => h) (Or.inl ⟨by rfl, ?_⟩) ?_ ?_
                rotate_left
                · intro w'
                  go_simp
                  with_reducible rfl
                rotate_left
                · simp only [Act.put, List.setIfInBounds_toArray, List.set_cons_zero, List.set_cons_succ, i64_w, i32_w]
                  rfl
                refine pure_ (i := 7) (N := some 42) (v := ?_) (a' := ?_) #[true, true, true, true, true, true, true, true, false, false, false, false, false, false, false, false, false, false, false, false, false, false, false, false, false, false, false, false] rfl rfl (any_of HT_.out (by kernel_rfl)) (fun _ _ _ h => h) (Or.inl ⟨by rfl, ?_⟩) ?_ ?_
                rotate_left
                · intro w'
                  go_simp
                  with_reducible rfl
                rotate_left
                · simp only [Act.put, List.setIfInBounds_toArray, List.set_cons_zero, List.set_cons_succ, i64_w, i32_w]
                  rfl
                refine pure_ (i := 8) (N := some 43) (v := ?_) (a' := ?_) #[true, true, true, true, true, true, true, true, true, false, false, false, false, false, false, false, false, false, false, false, false, false, false, false, false, false, false, false] rfl rfl (any_of HT_.out (by kernel_rfl)) (fun _ _ _ h => h) (Or.inl ⟨by rfl, ?_⟩) ?_ ?_
                rotate_left
                · intro w'
                  go_simp
                  with_reducible rfl
                rotate_left
                · simp only [Act.put, List.setIfInBounds_toArray, List.set_cons_zero, List.set_cons_succ, i64_w, i32_w]
                  rfl
                refine pure_ (i := 9) (N := some 44) (v := ?_) (a' := ?_) #[true, true, true, true, true, true, true, true, true, true, false, false, false, false, false, false, false, false, false, false, false, false, false, false, false, false, false, false] rfl rfl (any_of HT_.out (by kernel_rfl)) (fun _ _ _ h => h) (Or.inl ⟨by rfl, ?_⟩) ?_ ?_
                rotate_left
                · intro w'
                  go_simp
                  with_reducible rfl
                rotate_left
                · simp only [Act.put, List.setIfInBounds_toArray, List.set_cons_zero, List.set_cons_succ, i64_w, i32_w]
                  rfl
                refine pure_ (i := 10) (N := some 45) (v := ?_) (a' := ?_) #[true, true, true, true, true, true, true, true, true, true, true, false, false, false, false, false, false, false, false, false, false, false, false, false, false, false, false, false] rfl rfl (any_of HT_.out (by kernel_rfl)) (fun _ _ _ h => h) (Or.inl ⟨by rfl, ?_⟩) ?_ ?_
                rotate_left
                · intro w'
                  go_simp
                  with_reducible rfl
                rotate_left
                · simp only [Act.put, List.setIfInBounds_toArray, List.set_cons_zero, List.set_cons_succ, i64_w, i32_w]
                  rfl
                refine pure_ (i := 11) (N := some 46) (v := ?_) (a' := ?_) #[true, true, true, true, true, true, true, true, true, true, true, true, false, false, false, false, false, false, false, false, false, false, false, false, false, false, false, false] rfl rfl (any_of HT_.out (by kernel_rfl)) (fun _ _ _ h => h) (Or.inl ⟨by rfl, ?_⟩) ?_ ?_
                rotate_left
                · intro w'
                  go_simp
                  with_reducible rfl
                rotate_left
                · simp only [Act.put, List.setIfInBounds_toArray, List.set_cons_zero, List.set_cons_succ, i64_w, i32_w]
                  rfl
                refine pure_ (i := 12) (N := some 47) (v := ?_) (a' := ?_) #[true, true, true, true, true, true, true, true, true, true, true, true, true, false, false, false, false, false, false, false, false, false, false, false, false, false, false, false] rfl rfl (any_of HT_.out (by kernel_rfl)) (fun _ _ _ h => h) (Or.inl ⟨by rfl, ?_⟩) ?_ ?_
                rotate_left
                · intro w'
                  go_simp
                  with_reducible rfl
                rotate_left
                · simp only [Act.put, List.setIfInBounds_toArray, List.set_cons_zero, List.set_cons_succ, i64_w, i32_w]
                  rfl
                refine pure_ (i := 13) (N := some 48) (v := ?_) (a' := ?_) #[true, true, true, true, true, true, true, true, true, true, true, true, true, true, false, false, false, false, false, false, false, false, false, false, false, false, false, false] rfl rfl (any_of HT_.out (by kernel_rfl)) (fun _ _ _ h => h) (Or.inl ⟨by rfl, ?_⟩) ?_ ?_
                rotate_left
                · intro w'
                  go_simp
                  with_reducible rfl
                rotate_left
                · simp only [Act.put, List.setIfInBounds_toArray, List.set_cons_zero, List.set_cons_succ, i64_w, i32_w]
                  rfl
                refine pure_ (i := 14) (N := some 49) (v := ?_) (a' := ?_) #[true, true, true, true, true, true, true, true, true, true, true, true, true, true, true, false, false, false, false, false, false, false, false, false, false, false, false, false] rfl rfl (any_of HT_.out (by kernel_rfl)) (fun _ _ _ h => h) (Or.inl ⟨by rfl, ?_⟩) ?_ ?_
                rotate_left
                · intro w'
                  go_simp
                  with_reducible rfl
                rotate_left
                · simp only [Act.put, List.setIfInBounds_toArray, List.set_cons_zero, List.set_cons_succ, i64_w, i32_w]
                  rfl
                refine pure_ (i := 15) (N := some 50) (v := ?_) (a' := ?_) #[true, true, true, true, true, true, true, true, true, true, true, true, true, true, true, true, false, false, false, false, false, false, false, false, false, false, false, false] rfl rfl (any_of HT_.out (by kernel_rfl)) (fun _ _ _ h => h) (Or.inl ⟨by rfl, ?_⟩) ?_ ?_
                rotate_left
                · intro w'
                  go_simp
                  with_reducible rfl
                rotate_left
                · simp only [Act.put, List.setIfInBounds_toArray, List.set_cons_zero, List.set_cons_succ, i64_w, i32_w]
                  rfl
                refine pure_ (i := 16) (N := some 51) (v := ?_) (a' := ?_) #[true, true, true, true, true, true, true, true, true, true, true, true, true, true, true, true, true, false, false, false, false, false, false, false, false, false, false, false] rfl rfl (any_of HT_.out (by kernel_rfl)) (fun _ _ _ h => h) (Or.inl ⟨by rfl, ?_⟩) ?_ ?_
                rotate_left
                · intro w'
                  go_simp
                  with_reducible rfl
                rotate_left
                · simp only [Act.put, List.setIfInBounds_toArray, List.set_cons_zero, List.set_cons_succ, i64_w, i32_w]
                  rfl
                refine pure_ (i := 17) (N := some 52) (v := ?_) (a' := ?_) #[true, true, true, true, true, true, true, true, true, true, true, true, true, true, true, true, true, true, false, false, false, false, false, false, false, false, false, false] rfl rfl (any_of HT_.out (by kernel_rfl)) (fun _ _ _ h => h) (Or.inl ⟨by rfl, ?_⟩) ?_ ?_
                rotate_left
                · intro w'
                  go_simp
                  with_reducible rfl
                rotate_left
                · simp only [Act.put, List.setIfInBounds_toArray, List.set_cons_zero, List.set_cons_succ, i64_w, i32_w]
                  rfl
                refine pure_ (i := 18) (N := some 53) (v := ?_) (a' := ?_) #[true, true, true, true, true, true, true, true, true, true, true, true, true, true, true, true, true, true, true, false, false, false, false, false, false, false, false, false] rfl rfl (any_of HT_.out (by kernel_rfl)) (fun _ _ _ h => h) (Or.inl ⟨by rfl, ?_⟩) ?_ ?_
                rotate_left
                · intro w'
                  go_simp
                  with_reducible rfl
                rotate_left
                · simp only [Act.put, List.setIfInBounds_toArray, List.set_cons_zero, List.set_cons_succ, i64_w, i32_w]
                  rfl
                refine pure_ (i := 19) (N := some 54) (v := ?_) (a' := ?_) #[true, true, true, true, true, true, true, true, true, true, true, true, true, true, true, true, true, true, true, true, false, false, false, false, false, false, false, false] rfl rfl (any_of HT_.out (by kernel_rfl)) (fun _ _ _ h => h) (Or.inl ⟨by rfl, ?_⟩) ?_ ?_
                rotate_left
                · intro w'
                  go_simp
                  with_reducible rfl
                rotate_left
                · simp only [Act.put, List.setIfInBounds_toArray, List.set_cons_zero, List.set_cons_succ, i64_w, i32_w]
                  rfl
                refine pure_ (i := 20) (N := some 55) (v := ?_) (a' := ?_) #[true, true, true, true, true, true, true, true, true, true, true, true, true, true, true, true, true, true, true, true, true, false, false, false, false, false, false, false] rfl rfl (any_of HT_.out (by kernel_rfl)) (fun _ _ _ h => h) (Or.inl ⟨by rfl, ?_⟩) ?_ ?_
                rotate_left
                · intro w'
                  go_simp
                  with_reducible rfl
                rotate_left
                · simp only [Act.put, List.setIfInBounds_toArray, List.set_cons_zero, List.set_cons_succ, i64_w, i32_w]
                  rfl
                refine pure_ (i := 21) (N := some 56) (v := ?_) (a' := ?_) #[true, true, true, true, true, true, true, true, true, true, true, true, true, true, true, true, true, true, true, true, true, true, false, false, false, false, false, false] rfl rfl (any_of HT_.out (by kernel_rfl)) (fun _ _ _ h => h) (Or.inl ⟨by rfl, ?_⟩) ?_ ?_
                rotate_left
                · intro w'
                  go_simp
                  with_reducible rfl
                rotate_left
                · simp only [Act.put, List.setIfInBounds_toArray, List.set_cons_zero, List.set_cons_succ, i64_w, i32_w]
                  rfl
                refine pure_ (i := 22) (N := some 57) (v := ?_) (a' := ?_) #[true, true, true, true, true, true, true, true, true, true, true, true, true, true, true, true, true, true, true, true, true, true, true, false, false, false, false, false] rfl rfl (any_of HT_.out (by kernel_rfl)) (fun _ _ _ h => h) (Or.inl ⟨by rfl, ?_⟩) ?_ ?_
                rotate_left
                · intro w'
                  go_simp
                  with_reducible rfl
                rotate_left
                · simp only [Act.put, List.setIfInBounds_toArray, List.set_cons_zero, List.set_cons_succ, i64_w, i32_w]
                  rfl
                refine pure_ (i := 23) (N := some 58) (v := ?_) (a' := ?_) #[true, true, true, true, true, true, true, true, true, true, true, true, true, true, true, true, true, true, true, true, true, true, true, true, false, false, false, false] rfl rfl (any_of HT_.out (by kernel_rfl)) (fun _ _ _ h => h) (Or.inl ⟨by rfl, ?_⟩) ?_ ?_
                rotate_left
                · intro w'
                  go_simp
                  with_reducible rfl
                rotate_left
                · simp only [Act.put, List.setIfInBounds_toArray, List.set_cons_zero, List.set_cons_succ, i64_w, i32_w]
                  rfl
                refine pure_ (i := 24) (N := some 59) (v := ?_) (a' := ?_) #[true, true, true, true, true, true, true, true, true, true, true, true, true, true, true, true, true, true, true, true, true, true, true, true, true, false, false, false] rfl rfl (any_of HT_.out (by kernel_rfl)) (fun _ _ _ h => h) (Or.inl ⟨by rfl, ?_⟩) ?_ ?_
                rotate_left
                · intro w'
                  go_simp
                  with_reducible rfl
                rotate_left
                · simp only [Act.put, List.setIfInBounds_toArray, List.set_cons_zero, List.set_cons_succ, i64_w, i32_w]
                  rfl
                refine pure_ (i := 27) (N := some 62) (v := ?_) (a' := ?_) #[true, true, true, true, true, true, true, true, true, true, true, true, true, true, true, true, true, true, true, true, true, true, true, true, true, false, false, true] rfl rfl (any_of HT_.out (by kernel_rfl)) (fun _ _ _ h => h) (Or.inl ⟨by rfl, ?_⟩) ?_ ?_
                rotate_left
                · intro w'
                  go_simp
                  with_reducible rfl
                rotate_left
                · simp only [Act.put, List.setIfInBounds_toArray, List.set_cons_zero, List.set_cons_succ, i64_w, i32_w]
                  rfl
                refine one_ (i := 25) (N := some 60) #[true, true, true, true, true, true, true, true, true, true, true, true, true, true, true, true, true, true, true, true, true, true, true, true, true, true, false, true] rfl rfl (one_of HT_.out (by kernel_rfl)) (by decide) (fun K hK => ?_)
                refine Kd.R_lit_step Kd.string _ 9 ?hg (N := 60) ?hd (xs := ([a0, ((t226.extract 0 (t228 : Int).toNat) ++ a4) ++ (t226.extract ((ji13) : Int).toNat t226.size), ((t226.extract 0 (t228 : Int).toNat) ++ a4) ++ (t226.extract (t228 : Int).toNat t226.size)] : List ByteArray)) (inner := [.string a0, .string (((t226.extract 0 (t228 : Int).toNat) ++ a4) ++ (t226.extract ((ji13) : Int).toNat t226.size)), .string (((t226.extract 0 (t228 : Int).toNat) ++ a4) ++ (t226.extract (t228 : Int).toNat t226.size))]) (ok := fun _ => True) (okp := fun _ => True) ?hr ?hp (fun _ hk => hk) trivial (Below.refl _ _) (Nat.le_refl _) (by simp) ?_; (case hd => rfl); (case hg => rfl); (case hr => first | (go_simp; done) | (go_simp; rfl)); (case hp => exact (Reps.one (show Kd.M Kd.string _ _ _ a0 [.string a0] from rfl) (Reps.one (show Kd.M Kd.string _ _ _ (((t226.extract 0 (t228 : Int).toNat) ++ a4) ++ (t226.extract ((ji13) : Int).toNat t226.size)) [.string (((t226.extract 0 (t228 : Int).toNat) ++ a4) ++ (t226.extract ((ji13) : Int).toNat t226.size))] from rfl) (Reps.one (show Kd.M Kd.string _ _ _ (((t226.extract 0 (t228 : Int).toNat) ++ a4) ++ (t226.extract (t228 : Int).toNat t226.size)) [.string (((t226.extract 0 (t228 : Int).toNat) ++ a4) ++ (t226.extract (t228 : Int).toNat t226.size))] from rfl) (Reps.none _ _)))))
                intro v230 w26 ho27 hb hg_ hnew_
                clear hg_ hnew_
                (first | rw [← Ny229.out] at ho27 | (simp only [Int.reduceToNat] at ho27; rw [← Ny229.out] at ho27))
                have n0_ := Aside0.mk (Kd.R_lower ho27 (below_size (by repeat (first | (with_reducible first | exact HB.out | apply below_alloc | apply pw_below_drewN | apply below_drew1) | exact HB.out))))
                have n1_ := Aside0.mk (below_step (by repeat (first | (with_reducible first | exact HB.out | apply below_alloc | apply pw_below_drewN | apply below_drew1) | exact HB.out)) hb)
                clear HB
                have HO231 := n0_
                have HB := n1_
                clear n0_ n1_
                clear hb ho27
                obtain ⟨Ao28, co28, eo28⟩ := Kd.R_slice HO231.out
                (first | subst eo28 | (injection eo28 with f1_ f2_ f3_; have f4_ := f1_.symm; have f5_ := f3_.symm; clear f1_ f2_ f3_; subst f4_; subst f5_))
                refine hK.out _ _ trivial (fun hHeld => ?_)
                clear hK K
                refine norm_ (a' := ?_) ?_ ?_
                rotate_left
                · show Act.put _ (some 60) _ = _
                  simp only [Act.put, List.setIfInBounds_toArray, List.set_cons_zero, List.set_cons_succ, i64_w, i32_w]
                  rfl
                refine pure_ (i := 26) (N := some 61) (v := ?_) (a' := ?_) #[true, true, true, true, true, true, true, true, true, true, true, true, true, true, true, true, true, true, true, true, true, true, true, true, true, true, true, true] rfl rfl (any_of HT_.out (by kernel_rfl)) (fun _ _ _ h => h) (Or.inl ⟨by rfl, ?_⟩) ?_ ?_
                rotate_left
                · intro w'
                  go_simp
                  with_reducible rfl
                rotate_left
                · simp only [Act.put, List.setIfInBounds_toArray, List.set_cons_zero, List.set_cons_succ, i64_w, i32_w]
                  rfl
                refine done_ (done_of HT_.out (by kernel_rfl)) ?_
                try go_wp2
                go_loopg [62] k (fun kq v62 w' => ∃ (x62_1 : Int), v62 = .int .i64 x62_1 ∧ Aside0 (humpyardlaw07_TopicForth.l0 kq t222 y229 (y229.length : Int) x62_1 = some r) ∧ Aside0 (kq ≤ k) ∧ Aside0 (Kd.R Kd.string 9 w' w.heap.size (fun _ => True) (.slice Ao28 y229.length co28) y229) ∧ Aside0 (Below w.heap.size w w'))
                case atStart => exact ⟨(0), (by first | rfl | (simp; done) | (simp [*]; done)), H', ⟨Nat.le_refl _⟩, ⟨by (with_reducible repeat (first | apply Kd.R_alloc | apply Kd.R_drewN | apply Kd.R_drew)); exact HO231.out⟩, ⟨by repeat (first | (with_reducible first | exact HB.out | apply below_alloc | apply pw_below_drewN | apply below_drew1) | exact HB.out)⟩⟩
                case round =>
                  clear H'
                  try clear c1
                  try clear c2
                  try clear p2
                  try clear c5
                  try clear p6
                  try clear c7
                  try clear c8
                  try clear c10
                  try clear c10b0
                  try clear c10b1
                  try clear c11
                  try clear c11b0
                  try clear c11b1
                  try clear c12
                  try clear c12b0
                  try clear c12b1
                  try clear c12b2
                  try clear c14
                  try clear c14b0
                  try clear c14b1
                  try clear c15
                  try clear c15b0
                  try clear c15b1
                  try clear c16
                  try clear c16b0
                  try clear c16b1
                  try clear c16b2
                  try clear c17
                  try clear c17b0
                  try clear c18
                  try clear c18b0
                  try clear c19
                  try clear c19b0
                  try clear c20
                  try clear c20b0
                  try clear c21
                  try clear c21b0
                  try clear c21b1
                  try clear c21b2
                  obtain ⟨x62_1, rfl, HA, HK1, HO_60, HB⟩ := hrel
                  cases gk with
                  | zero => exact absurd HA.out (by simp [humpyardlaw07_TopicForth.l0])
                  | succ k1 =>
                    have H := HA.out
                    clear HA
                    simp only [humpyardlaw07_TopicForth.l0] at H
                    by_cases c29 : x62_1 < (y229.length : Int)
                    · rw [if_pos c29] at H
                      have c29b0 : decide (x62_1 < (y229.length : Int)) = true := decide_eq_true c29
                      clear c29
                      by_cases c30 : 0 ≤ x62_1
                      · rw [if_pos c30] at H
                        have c30b0 : decide (0 ≤ x62_1) = true := decide_eq_true c30
                        clear c30
                        by_cases c31 : x62_1 < (y229.length : Int)
                        · rw [if_pos c31] at H
                          have c31b0 : decide (x62_1 < (y229.length : Int)) = true := decide_eq_true c31
                          clear c31
                          replace H := Option.bind_eq_some_iff.mp H
                          obtain ⟨⟨t233, t234, t235, t236⟩, A320, H⟩ := H
                          replace H : (if t236 = 0 then ((topic_Print.f k1 t233 t234 t235).bind fun bt238 => (if bt238.2 = 0 then (if bt238.1.toList = (rdOf ByteArray.empty y229 x62_1).toList then (humpyardlaw07_TopicForth.l0 k1 t222 y229 (y229.length : Int) (wrap64 (x62_1 + 1))) else (none)) else (none))) else (if (!(t233.toList == ([] : List UInt8)) || (!(t234.toList == ([] : List UInt8)) || (!(t235.toList == ([] : List UInt8))))) = true then (none) else (humpyardlaw07_TopicForth.l0 k1 t222 y229 (y229.length : Int) (wrap64 (x62_1 + 1))))) = some r := H
                          have A32 := Aside0.mk A320
                          clear A320
                          by_cases c33 : t236 = 0
                          · rw [if_pos c33] at H
                            have c33b0 : (t236 == 0) = true := beq_iff_eq.mpr c33
                            have c33b1 : (t236 != 0) = false := bne_eq_false_iff_eq.mpr c33
                            clear c33
                            replace H := Option.bind_eq_some_iff.mp H
                            obtain ⟨⟨t238, t239⟩, A340, H⟩ := H
                            replace H : (if t239 = 0 then (if t238.toList = (rdOf ByteArray.empty y229 x62_1).toList then (humpyardlaw07_TopicForth.l0 k1 t222 y229 (y229.length : Int) (wrap64 (x62_1 + 1))) else (none)) else (none)) = some r := H
                            have A34 := Aside0.mk A340
                            clear A340
                            by_cases c35 : t239 = 0
                            · rw [if_pos c35] at H
                              have c35b0 : (t239 == 0) = true := beq_iff_eq.mpr c35
                              have c35b1 : (t239 != 0) = false := bne_eq_false_iff_eq.mpr c35
                              clear c35
                              by_cases c36 : t238.toList = (rdOf ByteArray.empty y229 x62_1).toList
                              · rw [if_pos c36] at H
                                have c36b0 : (t238.toList == (rdOf ByteArray.empty y229 x62_1).toList) = true := beq_iff_eq.mpr c36
                                have c36b1 : (t238.toList != (rdOf ByteArray.empty y229 x62_1).toList) = false := bne_eq_false_iff_eq.mpr c36
                                clear c36
                                have H' := Aside0.mk H
                                clear H
                                have p232 : 0 ≤ (x62_1 : Int) := of_decide_eq_true (by first | (with_reducible assumption) | assumption)
                                have q232 : x62_1 < (y229.length : Int) := of_decide_eq_true (by first | (with_reducible assumption) | assumption)
                                obtain ⟨ad232, e232, hx232_0⟩ := Kd.at_string (Kd.R_reads' HO_60.out).2.2 x62_1 p232 q232
                                cases e232
                                replace p232 := eq_true p232
                                replace q232 := eq_true q232
                                go_wp2_with (first | ((with_reducible refine gate_callee (f := 14) rfl ?_); refine goesL_ (some 68) rfl rfl Tryd.func14 (by kernel_rfl) rfl #[.string (rdOf ByteArray.empty y229 x62_1)] rfl (by (try simp only [List.map_toArray, List.map_cons, List.map_nil]); first | done | rfl | (simp only [List.length_drop, List.length_take]; rfl)) ?_; (with_reducible refine (topic_Parse.calls (rdOf ByteArray.empty y229 x62_1) t233 t234 t235 t236 _ A32.out).mono ?_); rintro e w37 ⟨rfl, hb⟩; refine ⟨_, rfl, ?_⟩; have n0_ := Aside0.mk (Kd.R_below (by (with_reducible repeat (first | apply Kd.R_alloc | apply Kd.R_drewN | apply Kd.R_drew)); exact HO_60.out) hb); have n1_ := Aside0.mk (below_step (by repeat (first | (with_reducible first | exact HB.out | apply below_alloc | apply pw_below_drewN | apply below_drew1) | exact HB.out)) hb); clear HO_60; clear HB; have HO_60 := n0_; have HB := n1_; clear n0_ n1_; (try clear hb); (try clear hb2); (try clear hk); (try clear hi)) | ((with_reducible refine gate_dst (N := 17) rfl ?_); refine box_event ?hg (N := 17) ?hd (cs := #[.string (⟨#[]⟩ : ByteArray), .string (⟨#[]⟩ : ByteArray), .string (⟨#[]⟩ : ByteArray)]) (t := 23) ?hr ?_; (case hd => rfl); (case hg => rfl); (case hr => first | (go_simp; done) | (go_simp; rfl)); intro gb237 hg w38 hbox hb; have n0_ := Aside0.mk (Kd.R_below (by (with_reducible repeat (first | apply Kd.R_alloc | apply Kd.R_drewN | apply Kd.R_drew)); exact HO_60.out) hb); have n1_ := Aside0.mk (below_step (by repeat (first | (with_reducible first | exact HB.out | apply below_alloc | apply pw_below_drewN | apply below_drew1) | exact HB.out)) hb); have n2_ := Aside0.mk (hbox); have n3_ := Aside0.mk ((by rw [hg]; exact (below_size (by repeat (first | (with_reducible first | exact HB.out | apply below_alloc | apply pw_below_drewN | apply below_drew1) | exact HB.out))) : w.heap.size ≤ gb237)); have n4_ := Aside0.mk ((by rw [hg]; exact (below_size (by repeat (first | (with_reducible first | exact HB.out | apply below_alloc | apply pw_below_drewN | apply below_drew1) | exact HB.out))) : w.heap.size ≤ gb237)); clear HO_60; clear HB; have HO_60 := n0_; have HB := n1_; have BK237 := n2_; have GW237 := n3_; have GE237 := n4_; clear n0_ n1_ n2_ n3_ n4_; clear hb hbox hg; have hcz39_0 : w38.cell? ⟨gb237, 0, none⟩ = some (.string (⟨#[]⟩ : ByteArray)) := (blk_cell BK237.out 0).trans rfl; have hcz39_1 : w38.cell? ⟨gb237, 1, none⟩ = some (.string (⟨#[]⟩ : ByteArray)) := (blk_cell BK237.out 1).trans rfl; have hcz39_2 : w38.cell? ⟨gb237, 2, none⟩ = some (.string (⟨#[]⟩ : ByteArray)) := (blk_cell BK237.out 2).trans rfl; have hfz39_0 := blk_frozen BK237.out 0; have hfz39_1 := blk_frozen BK237.out 1; have hfz39_2 := blk_frozen BK237.out 2) | ((with_reducible refine gate_callee (f := 11) rfl ?_); refine goesL_ (some 78) rfl rfl Tryd.func11 (by kernel_rfl) rfl #[.agg #[.string t233, .string t234, .string t235]] rfl (by (try simp only [List.map_toArray, List.map_cons, List.map_nil]); first | done | rfl | (simp only [List.length_drop, List.length_take]; rfl)) ?_; (with_reducible refine (topic_Print.calls k1 t233 t234 t235 t238 t239 _ A34.out).mono ?_); rintro e w40 ⟨rfl, hb⟩; refine ⟨_, rfl, ?_⟩; have n0_ := Aside0.mk (Kd.R_below (by (with_reducible repeat (first | apply Kd.R_alloc | apply Kd.R_drewN | apply Kd.R_drew)); exact (Kd.R_mono (Kd.R_far (p := ⟨gb237, 2, none⟩) (Kd.R_far (p := ⟨gb237, 1, none⟩) (Kd.R_far (p := ⟨gb237, 0, none⟩) (Kd.R_types HO_60.out BK237.out (by decide)) (fun _ hk => hk.2) (.string t233)) (fun _ hk => hk.2) (.string t234)) (fun _ hk => hk.2) (.string t235)) (fun _ h_ => h_.1))) hb); have n1_ := Aside0.mk (blk_below (g := gb237) (o := .cells #[.string t233, .string t234, .string t235] 23 (0, 0)) (by (with_reducible repeat (first | refine blk_drewN ?_ _ | refine blk_drew ?_ | refine blk_alloc ?_ _)); refine blk_put (cs := #[.string t233, .string t234, .string (⟨#[]⟩ : ByteArray)]) ?_ 2 _ rfl; (with_reducible repeat (first | refine blk_drewN ?_ _ | refine blk_drew ?_ | refine blk_alloc ?_ _)); refine blk_put (cs := #[.string t233, .string (⟨#[]⟩ : ByteArray), .string (⟨#[]⟩ : ByteArray)]) ?_ 1 _ rfl; (with_reducible repeat (first | refine blk_drewN ?_ _ | refine blk_drew ?_ | refine blk_alloc ?_ _)); refine blk_put (cs := #[.string (⟨#[]⟩ : ByteArray), .string (⟨#[]⟩ : ByteArray), .string (⟨#[]⟩ : ByteArray)]) ?_ 0 _ rfl; (with_reducible repeat (first | refine blk_drewN ?_ _ | refine blk_drew ?_ | refine blk_alloc ?_ _)); exact BK237.out) hb); have n2_ := Aside0.mk (below_step (by repeat (first | (with_reducible first | exact HB.out | apply below_alloc | apply pw_below_drewN | apply below_drew1 | refine below_set ?_ GE237.out) | exact HB.out)) hb); clear HO_60; clear BK237; clear HB; have HO_60 := n0_; have BK237 := n1_; have HB := n2_; clear n0_ n1_ n2_; (try clear hb); (try clear hb2); (try clear hk); (try clear hi)))
                                go_roundg k1
                                case measure => have := HK1.out; omega
                                case rel => exact ⟨(wrap64 (x62_1 + 1)), (by first | rfl | (simp; done) | (simp [*]; done)), H', ⟨by have := HK1.out; omega⟩, ⟨by (with_reducible repeat (first | apply Kd.R_alloc | apply Kd.R_drewN | apply Kd.R_drew)); exact HO_60.out⟩, ⟨by repeat (first | (with_reducible first | exact HB.out | apply below_alloc | apply pw_below_drewN | apply below_drew1 | refine below_set ?_ GE237.out) | exact HB.out)⟩⟩
                              · rw [if_neg c36] at H
                                exact absurd H (by simp)
                            · rw [if_neg c35] at H
                              exact absurd H (by simp)
                          · rw [if_neg c33] at H
                            have c33b0 : (t236 == 0) = false := beq_eq_false_iff_ne.mpr c33
                            have c33b1 : (t236 != 0) = true := bne_iff_ne.mpr c33
                            by_cases c41 : (!(t233.toList == ([] : List UInt8)) || (!(t234.toList == ([] : List UInt8)) || (!(t235.toList == ([] : List UInt8))))) = true
                            · rw [if_pos c41] at H
                              exact absurd H (by simp)
                            · rw [if_neg c41] at H
                              have c41b0 : (!(t233.toList == ([] : List UInt8)) || (!(t234.toList == ([] : List UInt8)) || (!(t235.toList == ([] : List UInt8))))) = false := by simpa using c41
                              have c41e0 : (!t233.toList.isEmpty) = false := by -- SIZES
                                have z_ := c41b0
                                simp at z_
                                simp [z_]
                              have c41e1 : (!t234.toList.isEmpty) = false := by -- SIZES
                                have z_ := c41b0
                                simp at z_
                                simp [z_]
                              have c41e2 : (!t235.toList.isEmpty) = false := by -- SIZES
                                have z_ := c41b0
                                simp at z_
                                simp [z_]
                              clear c41
                              have H' := Aside0.mk H
                              clear H
                              have p232 : 0 ≤ (x62_1 : Int) := of_decide_eq_true (by first | (with_reducible assumption) | assumption)
                              have q232 : x62_1 < (y229.length : Int) := of_decide_eq_true (by first | (with_reducible assumption) | assumption)
                              obtain ⟨ad232, e232, hx232_0⟩ := Kd.at_string (Kd.R_reads' HO_60.out).2.2 x62_1 p232 q232
                              cases e232
                              replace p232 := eq_true p232
                              replace q232 := eq_true q232
                              go_wp2_with (first | ((with_reducible refine gate_callee (f := 14) rfl ?_); refine goesL_ (some 68) rfl rfl Tryd.func14 (by kernel_rfl) rfl #[.string (rdOf ByteArray.empty y229 x62_1)] rfl (by (try simp only [List.map_toArray, List.map_cons, List.map_nil]); first | done | rfl | (simp only [List.length_drop, List.length_take]; rfl)) ?_; (with_reducible refine (topic_Parse.calls (rdOf ByteArray.empty y229 x62_1) t233 t234 t235 t236 _ A32.out).mono ?_); rintro e w42 ⟨rfl, hb⟩; refine ⟨_, rfl, ?_⟩; have n0_ := Aside0.mk (Kd.R_below (by (with_reducible repeat (first | apply Kd.R_alloc | apply Kd.R_drewN | apply Kd.R_drew)); exact HO_60.out) hb); have n1_ := Aside0.mk (below_step (by repeat (first | (with_reducible first | exact HB.out | apply below_alloc | apply pw_below_drewN | apply below_drew1) | exact HB.out)) hb); clear HO_60; clear HB; have HO_60 := n0_; have HB := n1_; clear n0_ n1_; (try clear hb); (try clear hb2); (try clear hk); (try clear hi)) | ((with_reducible refine gate_dst (N := 17) rfl ?_); refine box_event ?hg (N := 17) ?hd (cs := #[.string (⟨#[]⟩ : ByteArray), .string (⟨#[]⟩ : ByteArray), .string (⟨#[]⟩ : ByteArray)]) (t := 23) ?hr ?_; (case hd => rfl); (case hg => rfl); (case hr => first | (go_simp; done) | (go_simp; rfl)); intro gb237 hg w43 hbox hb; have n0_ := Aside0.mk (Kd.R_below (by (with_reducible repeat (first | apply Kd.R_alloc | apply Kd.R_drewN | apply Kd.R_drew)); exact HO_60.out) hb); have n1_ := Aside0.mk (below_step (by repeat (first | (with_reducible first | exact HB.out | apply below_alloc | apply pw_below_drewN | apply below_drew1) | exact HB.out)) hb); have n2_ := Aside0.mk (hbox); have n3_ := Aside0.mk ((by rw [hg]; exact (below_size (by repeat (first | (with_reducible first | exact HB.out | apply below_alloc | apply pw_below_drewN | apply below_drew1) | exact HB.out))) : w.heap.size ≤ gb237)); have n4_ := Aside0.mk ((by rw [hg]; exact (below_size (by repeat (first | (with_reducible first | exact HB.out | apply below_alloc | apply pw_below_drewN | apply below_drew1) | exact HB.out))) : w.heap.size ≤ gb237)); clear HO_60; clear HB; have HO_60 := n0_; have HB := n1_; have BK237 := n2_; have GW237 := n3_; have GE237 := n4_; clear n0_ n1_ n2_ n3_ n4_; clear hb hbox hg; have hcz44_0 : w43.cell? ⟨gb237, 0, none⟩ = some (.string (⟨#[]⟩ : ByteArray)) := (blk_cell BK237.out 0).trans rfl; have hcz44_1 : w43.cell? ⟨gb237, 1, none⟩ = some (.string (⟨#[]⟩ : ByteArray)) := (blk_cell BK237.out 1).trans rfl; have hcz44_2 : w43.cell? ⟨gb237, 2, none⟩ = some (.string (⟨#[]⟩ : ByteArray)) := (blk_cell BK237.out 2).trans rfl; have hfz44_0 := blk_frozen BK237.out 0; have hfz44_1 := blk_frozen BK237.out 1; have hfz44_2 := blk_frozen BK237.out 2))
                              go_roundg k1
                              case measure => have := HK1.out; omega
                              case rel => exact ⟨(wrap64 (x62_1 + 1)), (by first | rfl | (simp; done) | (simp [*]; done)), H', ⟨by have := HK1.out; omega⟩, ⟨by (with_reducible repeat (first | apply Kd.R_alloc | apply Kd.R_drewN | apply Kd.R_drew)); exact Kd.R_mono (Kd.R_far (p := ⟨gb237, 2, none⟩) (Kd.R_far (p := ⟨gb237, 1, none⟩) (Kd.R_far (p := ⟨gb237, 0, none⟩) (Kd.R_types HO_60.out BK237.out (by decide)) (fun _ hk => hk.2) (.string t233)) (fun _ hk => hk.2) (.string t234)) (fun _ hk => hk.2) (.string t235)) (fun _ hk => trivial)⟩, ⟨by repeat (first | (with_reducible first | exact HB.out | apply below_alloc | apply pw_below_drewN | apply below_drew1 | refine below_set ?_ GE237.out) | exact HB.out)⟩⟩
                        · rw [if_neg c31] at H
                          exact absurd H (by simp)
                      · rw [if_neg c30] at H
                        exact absurd H (by simp)
                    · rw [if_neg c29] at H
                      have c29b0 : decide (x62_1 < (y229.length : Int)) = false := decide_eq_false c29
                      clear c29
                      obtain rfl := Option.some.inj H
                      go_wp2
                      go_ret
                      exact ⟨by first | rfl | (simp [errW_none, errW_some] <;> rfl) | (simp only [← hji13]; first | rfl | (simp [errW_none, errW_some] <;> rfl)) | (simp [*, errW_none, errW_some] <;> rfl), by repeat (first | (with_reducible first | exact HB.out | apply below_alloc | apply pw_below_drewN | apply below_drew1) | exact HB.out)⟩
              · rw [if_neg c21] at H
                exact absurd H (by simp)
            · rw [if_neg c16] at H
              exact absurd H (by simp)
          · rw [if_neg c15] at H
            exact absurd H (by simp)
        · rw [if_neg c14] at H
          exact absurd H (by simp)
      · rw [if_neg c12] at H
        exact absurd H (by simp)
    · rw [if_neg c11] at H
      exact absurd H (by simp)
  · rw [if_neg c10] at H
    exact absurd H (by simp)

/-- THE ONE PURE STATEMENT of humpyardlaw07_TopicForth: yours. -/
def humpyardlaw07_TopicForth.Pure : Prop := ∀ (a0 : ByteArray) (a1 : ByteArray) (a2 : Int) (a3 : Int) (a4 : ByteArray), a0.size ≤ 140737488351232 → a1.size ≤ 140737488351232 → (Lit.int .i64 a2).wf = true → (Lit.int .i64 a3).wf = true → a4.size ≤ 140737488351232 → ∃ k, humpyardlaw07_TopicForth.f k a0 a1 a2 a3 a4 = some true
theorem humpyardlaw07_TopicForth.walk (P : humpyardlaw07_TopicForth.Pure) (a0 : ByteArray) (a1 : ByteArray) (a2 : Int) (a3 : Int) (a4 : ByteArray) (w : World) (w0 : a0.size ≤ 140737488351232) (w1 : a1.size ≤ 140737488351232) (w2 : (Lit.int .i64 a2).wf = true) (w3 : (Lit.int .i64 a3).wf = true) (w4 : a4.size ≤ 140737488351232) :
    Calls Tryd.prog 5 #[.string a0, .string a1, .int .i64 a2, .int .i64 a3, .string a4] w fun e w' => e = .returned (.bool true) ∧ Below w.heap.size w w' := by
  obtain ⟨k, h⟩ := P a0 a1 a2 a3 a4 w0 w1 w2 w3 w4
  refine (humpyardlaw07_TopicForth.calls k a0 a1 a2 a3 a4 true w h).mono ?_
  rintro e w' ⟨rfl, hd⟩
  exact ⟨rfl, hd⟩

end Go.Proofs.YtcioahjfmmhiiaaDoor.PA
