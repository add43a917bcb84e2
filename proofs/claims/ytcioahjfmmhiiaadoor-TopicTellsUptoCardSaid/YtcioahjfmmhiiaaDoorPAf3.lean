-- written by wip/myprint.py: the kit's print, run with externs
import Derived.Test.YtcioahjfmmhiiaaDoorPAx0
import Derived.Test.YtcioahjfmmhiiaaDoorPAe23
import Derived.Test.YtcioahjfmmhiiaaDoorPAf11
import Derived.Test.YtcioahjfmmhiiaaDoorPAf7
import Derived.Test.YtcioahjfmmhiiaaDoorPAf10
import Derived.Test.YtcioahjfmmhiiaaDoorPAf8
import Derived.Test.YtcioahjfmmhiiaaDoorPAf13
import Derived.Test.YtcioahjfmmhiiaaDoorPAf9
import Derived.Test.YtcioahjfmmhiiaaDoorPAf15
import Derived.Test.YtcioahjfmmhiiaaDoorPAf17
import Derived.Test.YtcioahjfmmhiiaaDoorEName
import Derived.Test.YtcioahjfmmhiiaaDoorEParse
import Derived.Test.YtcioahjfmmhiiaaDoorEMatch
namespace Go.Proofs.YtcioahjfmmhiiaaDoor.PA
open Go.RowKit Go.Proofs.YtcioahjfmmhiiaaDoorW.PrintWords Go.Proofs.YtcioahjfmmhiiaaDoorW.PrintLast Go.Proofs.YtcioahjfmmhiiaaDoorW.PrintMore
attribute [local go_sem] max2_int min2_int max_two min_two max_three min_three max_four min_four   -- for this text's walks alone
set_option linter.unusedVariables false
set_option linter.unusedSimpArgs false

attribute [local go_sem high] eqA23
/-! ### humpyardlaw07_TopicTells: function 3 -/
mutual
def humpyardlaw07_TopicTells.j0 : Nat → ByteArray → ByteArray → ByteArray → Bool → ByteArray → Int → Bool → Option (Bool)
  | 0, _, _, _, _, _, _, _ => none
  | k + 1, x1, x2, x6, x15, x17, x19, x69 => if x69 = true then (none) else (if 0 ≤ x19 then (if x19 ≤ (x17.size : Int) then (if (x17.extract 0 (x19 : Int).toNat).size + x6.size ≤ 9223372036854775807 then (if 0 ≤ (mn (wrap64 (x19 + (x6.size : Int))) (x17.size : Int)) then (if (mn (wrap64 (x19 + (x6.size : Int))) (x17.size : Int)) ≤ (x17.size : Int) then (if ((x17.extract 0 (x19 : Int).toNat) ++ x6).size + (x17.extract ((mn (wrap64 (x19 + (x6.size : Int))) (x17.size : Int)) : Int).toNat x17.size).size ≤ 9223372036854775807 then (if ((x17.extract 0 (x19 : Int).toNat) ++ x6).size + (x17.extract (x19 : Int).toNat x17.size).size ≤ 9223372036854775807 then ((some (([x1, x17, ((x17.extract 0 (x19 : Int).toNat) ++ x6) ++ (x17.extract ((mn (wrap64 (x19 + (x6.size : Int))) (x17.size : Int)) : Int).toNat x17.size), ((x17.extract 0 (x19 : Int).toNat) ++ x6) ++ (x17.extract (x19 : Int).toNat x17.size)] : List ByteArray) : List ByteArray)).bind fun y183 => (humpyardlaw07_TopicTells.l0 k x2 x15 y183 (y183.length : Int) 0)) else (none)) else (none)) else (none)) else (none)) else (none)) else (none)) else (none))
def humpyardlaw07_TopicTells.l0 : Nat → ByteArray → Bool → List ByteArray → Int → Int → Option (Bool)
  | 0, _, _, _, _, _ => none
  | k + 1, x2, x15, x96, x97, x98 => if x98 < x97 then (if 0 ≤ x98 then (if x98 < (x96.length : Int) then ((topic_Parse.f (rdOf ByteArray.empty x96 x98)).bind fun bt187 => ((humpyardref07_Parse.f k (rdOf ByteArray.empty x96 x98)).bind fun bt192 => (if (!(bt187.1.toList == bt192.1.toList) || (!(bt187.2.1.toList == bt192.2.1.toList) || (!(bt187.2.2.1.toList == bt192.2.2.1.toList)))) = true then (none) else (if bt187.2.2.2 = bt192.2.2.2 then ((topic_Match.f x2 (rdOf ByteArray.empty x96 x98)).bind fun t197 => ((humpyardref07_Match.f k x2 (rdOf ByteArray.empty x96 x98)).bind fun t198 => (if (t197 != t198) = true then (none) else ((topic_Match.f (rdOf ByteArray.empty x96 x98) x2).bind fun t199 => ((humpyardref07_Match.f k (rdOf ByteArray.empty x96 x98) x2).bind fun t200 => (if (t199 != t200) = true then (none) else (humpyardlaw07_TopicTells.l0 k x2 x15 x96 x97 (wrap64 (x98 + 1))))))))) else (none))))) else (none)) else (none)) else (some x15)
end
def humpyardlaw07_TopicTells.f (k : Nat) (a0_0 : ByteArray) (a0_1 : ByteArray) (a0_2 : ByteArray) (a1 : ByteArray) (a2 : ByteArray) (a3 : ByteArray) (a4 : Int) (a5 : Int) (a6 : ByteArray) : Option (Bool) := (humpyardlaw07_awake.f k).bind fun t169 => ((humpyardlaw07_Topic.f a3 a1 a4).bind fun bt170 => ((humpyardref07_Print.f k bt170.1 bt170.2.1 bt170.2.2).bind fun bt174 => ((humpyardlaw07_pick.f a5 (wrap64 ((bt174.1.size : Int) + 1))).bind fun t176 => ((topic_Print.f k a0_0 a0_1 a0_2).bind fun bt177 => ((humpyardref07_Print.f k a0_0 a0_1 a0_2).bind fun bt179 => (if bt177.1.toList = bt179.1.toList then (if bt177.2 = bt179.2 then ((topic_Name.f a1).bind fun t181 => ((humpyardref07_Name.f k a1).bind fun t182 => (humpyardlaw07_TopicTells.j0 k a1 a2 a6 t169 bt174.1 t176 (t181 != t182)))) else (humpyardlaw07_TopicTells.j0 k a1 a2 a6 t169 bt174.1 t176 true)) else (humpyardlaw07_TopicTells.j0 k a1 a2 a6 t169 bt174.1 t176 true)))))))
theorem humpyardlaw07_TopicTells.mono_l : ∀ k, (∀ y0 y1 y2 y3 y4 y5 y6, LeO (humpyardlaw07_TopicTells.j0 k y0 y1 y2 y3 y4 y5 y6) (humpyardlaw07_TopicTells.j0 (k + 1) y0 y1 y2 y3 y4 y5 y6)) ∧ (∀ y0 y1 y2 y3 y4, LeO (humpyardlaw07_TopicTells.l0 k y0 y1 y2 y3 y4) (humpyardlaw07_TopicTells.l0 (k + 1) y0 y1 y2 y3 y4))
  | 0 => ⟨fun _ _ _ _ _ _ _ r h => by simp [humpyardlaw07_TopicTells.j0] at h, fun _ _ _ _ _ r h => by simp [humpyardlaw07_TopicTells.l0] at h⟩
  | k + 1 => by
    obtain ⟨ih0, ih1⟩ := humpyardlaw07_TopicTells.mono_l k
    refine ⟨?_, ?_⟩
    · intro y0 y1 y2 y3 y4 y5 y6
      unfold humpyardlaw07_TopicTells.j0
      repeat' first
      | (with_reducible exact ih0 _ _ _ _ _ _ _)
      | (with_reducible exact ih1 _ _ _ _ _)
      | (with_reducible exact humpyardlaw07_awake.mono _)
      | (with_reducible exact humpyardref07_Match.mono _ _ _)
      | (with_reducible exact humpyardref07_Name.mono _ _)
      | (with_reducible exact humpyardref07_Parse.mono _ _)
      | (with_reducible exact humpyardref07_Print.mono _ _ _ _)
      | (with_reducible exact topic_Print.mono _ _ _ _)
      | (with_reducible exact LeO.refl _)
      | (with_reducible exact LeO.none _)
      | (with_reducible refine LeO.ite ?_ ?_)
      | (with_reducible refine LeO.bind ?_ (fun _ => ?_))
      | exact ih0 _ _ _ _ _ _ _
      | exact ih1 _ _ _ _ _
      | exact humpyardlaw07_awake.mono _
      | exact humpyardref07_Match.mono _ _ _
      | exact humpyardref07_Name.mono _ _
      | exact humpyardref07_Parse.mono _ _
      | exact humpyardref07_Print.mono _ _ _ _
      | exact topic_Print.mono _ _ _ _
      | exact LeO.none _
      | refine LeO.ite ?_ ?_
      | refine LeO.bind ?_ (fun _ => ?_)
    · intro y0 y1 y2 y3 y4
      unfold humpyardlaw07_TopicTells.l0
      repeat' first
      | (with_reducible exact ih0 _ _ _ _ _ _ _)
      | (with_reducible exact ih1 _ _ _ _ _)
      | (with_reducible exact humpyardlaw07_awake.mono _)
      | (with_reducible exact humpyardref07_Match.mono _ _ _)
      | (with_reducible exact humpyardref07_Name.mono _ _)
      | (with_reducible exact humpyardref07_Parse.mono _ _)
      | (with_reducible exact humpyardref07_Print.mono _ _ _ _)
      | (with_reducible exact topic_Print.mono _ _ _ _)
      | (with_reducible exact LeO.refl _)
      | (with_reducible exact LeO.none _)
      | (with_reducible refine LeO.ite ?_ ?_)
      | (with_reducible refine LeO.bind ?_ (fun _ => ?_))
      | exact ih0 _ _ _ _ _ _ _
      | exact ih1 _ _ _ _ _
      | exact humpyardlaw07_awake.mono _
      | exact humpyardref07_Match.mono _ _ _
      | exact humpyardref07_Name.mono _ _
      | exact humpyardref07_Parse.mono _ _
      | exact humpyardref07_Print.mono _ _ _ _
      | exact topic_Print.mono _ _ _ _
      | exact LeO.none _
      | refine LeO.ite ?_ ?_
      | refine LeO.bind ?_ (fun _ => ?_)
theorem humpyardlaw07_TopicTells.mono : ∀ a0 a1 a2 a3 a4 a5 a6 a7 a8 k, LeO (humpyardlaw07_TopicTells.f k a0 a1 a2 a3 a4 a5 a6 a7 a8) (humpyardlaw07_TopicTells.f (k + 1) a0 a1 a2 a3 a4 a5 a6 a7 a8) := by
  intro a0 a1 a2 a3 a4 a5 a6 a7 a8 k
  obtain ⟨ih0, ih1⟩ := humpyardlaw07_TopicTells.mono_l k
  unfold humpyardlaw07_TopicTells.f
  repeat' first
      | (with_reducible exact ih0 _ _ _ _ _ _ _)
      | (with_reducible exact ih1 _ _ _ _ _)
      | (with_reducible exact humpyardlaw07_awake.mono _)
      | (with_reducible exact humpyardref07_Match.mono _ _ _)
      | (with_reducible exact humpyardref07_Name.mono _ _)
      | (with_reducible exact humpyardref07_Parse.mono _ _)
      | (with_reducible exact humpyardref07_Print.mono _ _ _ _)
      | (with_reducible exact topic_Print.mono _ _ _ _)
      | (with_reducible exact LeO.refl _)
      | (with_reducible exact LeO.none _)
      | (with_reducible refine LeO.ite ?_ ?_)
      | (with_reducible refine LeO.bind ?_ (fun _ => ?_))
      | exact ih0 _ _ _ _ _ _ _
      | exact ih1 _ _ _ _ _
      | exact humpyardlaw07_awake.mono _
      | exact humpyardref07_Match.mono _ _ _
      | exact humpyardref07_Name.mono _ _
      | exact humpyardref07_Parse.mono _ _
      | exact humpyardref07_Print.mono _ _ _ _
      | exact topic_Print.mono _ _ _ _
      | exact LeO.none _
      | refine LeO.ite ?_ ?_
      | refine LeO.bind ?_ (fun _ => ?_)
def humpyardlaw07_TopicTells.T9 : Bool × List (List Nat × List Nat) := (true, [([], []), ([], []), ([], []), ([], []), ([2, 3], [2, 3]), ([], []), ([4, 5], [4, 5]), ([], []), ([], []), ([], []), ([9], [9]), ([8, 10], [8, 10]), ([], []), ([12], [12]), ([11, 13], [11, 13]), ([7, 14], [7, 14]), ([6, 15], [6, 15]), ([], []), ([], []), ([17, 18], [17, 18]), ([], []), ([19, 20], [19, 20]), ([], []), ([], []), ([22, 23], [22, 23]), ([21, 24], [21, 24]), ([0, 1, 16, 25], [0, 1, 16, 25]), ([26], [26]), ([], [])])
def humpyardlaw07_TopicTells.B9 : List Nat := [0, 0, 0, 0, 12, 0, 60, 0, 0, 0, 512, 1792, 0, 4096, 16128, 32640, 65532, 0, 0, 393216, 0, 1966080, 0, 0, 12582912, 33423360, 67108863, 134217727, 0]
theorem humpyardlaw07_TopicTells.tab9 : rtab .any (opsOf Tryd.f3 9) = humpyardlaw07_TopicTells.T9 := by kernel_rfl
theorem humpyardlaw07_TopicTells.bits9 : waitsOk humpyardlaw07_TopicTells.T9.2 humpyardlaw07_TopicTells.B9 = true := by kernel_rfl
set_option maxHeartbeats 8000000 in
set_option maxRecDepth 100000 in
theorem humpyardlaw07_TopicTells.calls (k : Nat) (a0_0 : ByteArray) (a0_1 : ByteArray) (a0_2 : ByteArray) (a1 : ByteArray) (a2 : ByteArray) (a3 : ByteArray) (a4 : Int) (a5 : Int) (a6 : ByteArray) (r : Bool) (w : World) (h : humpyardlaw07_TopicTells.f k a0_0 a0_1 a0_2 a1 a2 a3 a4 a5 a6 = some r) :
    Calls Tryd.prog 3 #[.agg #[.string a0_0, .string a0_1, .string a0_2], .string a1, .string a2, .string a3, .int .i64 a4, .int .i64 a5, .string a6] w fun e w' => e = .returned (.bool r) ∧ Below w.heap.size w w' := by
  have hu23 := Tryd.underlying23
  have HB := Aside0.mk (Below.refl w.heap.size w)
  have H : ((humpyardlaw07_awake.f k).bind fun t169 => ((humpyardlaw07_Topic.f a3 a1 a4).bind fun bt170 => ((humpyardref07_Print.f k bt170.1 bt170.2.1 bt170.2.2).bind fun bt174 => ((humpyardlaw07_pick.f a5 (wrap64 ((bt174.1.size : Int) + 1))).bind fun t176 => ((topic_Print.f k a0_0 a0_1 a0_2).bind fun bt177 => ((humpyardref07_Print.f k a0_0 a0_1 a0_2).bind fun bt179 => (if bt177.1.toList = bt179.1.toList then (if bt177.2 = bt179.2 then ((topic_Name.f a1).bind fun t181 => ((humpyardref07_Name.f k a1).bind fun t182 => (humpyardlaw07_TopicTells.j0 k a1 a2 a6 t169 bt174.1 t176 (t181 != t182)))) else (humpyardlaw07_TopicTells.j0 k a1 a2 a6 t169 bt174.1 t176 true)) else (humpyardlaw07_TopicTells.j0 k a1 a2 a6 t169 bt174.1 t176 true)))))))) = some r := h
  clear h
  replace H := Option.bind_eq_some_iff.mp H
  obtain ⟨t169, A80, H⟩ := H
  replace H : ((humpyardlaw07_Topic.f a3 a1 a4).bind fun bt170 => ((humpyardref07_Print.f k bt170.1 bt170.2.1 bt170.2.2).bind fun bt174 => ((humpyardlaw07_pick.f a5 (wrap64 ((bt174.1.size : Int) + 1))).bind fun t176 => ((topic_Print.f k a0_0 a0_1 a0_2).bind fun bt177 => ((humpyardref07_Print.f k a0_0 a0_1 a0_2).bind fun bt179 => (if bt177.1.toList = bt179.1.toList then (if bt177.2 = bt179.2 then ((topic_Name.f a1).bind fun t181 => ((humpyardref07_Name.f k a1).bind fun t182 => (humpyardlaw07_TopicTells.j0 k a1 a2 a6 t169 bt174.1 t176 (t181 != t182)))) else (humpyardlaw07_TopicTells.j0 k a1 a2 a6 t169 bt174.1 t176 true)) else (humpyardlaw07_TopicTells.j0 k a1 a2 a6 t169 bt174.1 t176 true))))))) = some r := H
  have A8 := Aside0.mk A80
  clear A80
  replace H := Option.bind_eq_some_iff.mp H
  obtain ⟨⟨t170, t171, t172⟩, A90, H⟩ := H
  replace H : ((humpyardref07_Print.f k t170 t171 t172).bind fun bt174 => ((humpyardlaw07_pick.f a5 (wrap64 ((bt174.1.size : Int) + 1))).bind fun t176 => ((topic_Print.f k a0_0 a0_1 a0_2).bind fun bt177 => ((humpyardref07_Print.f k a0_0 a0_1 a0_2).bind fun bt179 => (if bt177.1.toList = bt179.1.toList then (if bt177.2 = bt179.2 then ((topic_Name.f a1).bind fun t181 => ((humpyardref07_Name.f k a1).bind fun t182 => (humpyardlaw07_TopicTells.j0 k a1 a2 a6 t169 bt174.1 t176 (t181 != t182)))) else (humpyardlaw07_TopicTells.j0 k a1 a2 a6 t169 bt174.1 t176 true)) else (humpyardlaw07_TopicTells.j0 k a1 a2 a6 t169 bt174.1 t176 true)))))) = some r := H
  have A9 := Aside0.mk A90
  clear A90
  replace H := Option.bind_eq_some_iff.mp H
  obtain ⟨⟨t174, t175⟩, A100, H⟩ := H
  replace H : ((humpyardlaw07_pick.f a5 (wrap64 ((t174.size : Int) + 1))).bind fun t176 => ((topic_Print.f k a0_0 a0_1 a0_2).bind fun bt177 => ((humpyardref07_Print.f k a0_0 a0_1 a0_2).bind fun bt179 => (if bt177.1.toList = bt179.1.toList then (if bt177.2 = bt179.2 then ((topic_Name.f a1).bind fun t181 => ((humpyardref07_Name.f k a1).bind fun t182 => (humpyardlaw07_TopicTells.j0 k a1 a2 a6 t169 t174 t176 (t181 != t182)))) else (humpyardlaw07_TopicTells.j0 k a1 a2 a6 t169 t174 t176 true)) else (humpyardlaw07_TopicTells.j0 k a1 a2 a6 t169 t174 t176 true))))) = some r := H
  have A10 := Aside0.mk A100
  clear A100
  replace H := Option.bind_eq_some_iff.mp H
  obtain ⟨t176, A110, H⟩ := H
  replace H : ((topic_Print.f k a0_0 a0_1 a0_2).bind fun bt177 => ((humpyardref07_Print.f k a0_0 a0_1 a0_2).bind fun bt179 => (if bt177.1.toList = bt179.1.toList then (if bt177.2 = bt179.2 then ((topic_Name.f a1).bind fun t181 => ((humpyardref07_Name.f k a1).bind fun t182 => (humpyardlaw07_TopicTells.j0 k a1 a2 a6 t169 t174 t176 (t181 != t182)))) else (humpyardlaw07_TopicTells.j0 k a1 a2 a6 t169 t174 t176 true)) else (humpyardlaw07_TopicTells.j0 k a1 a2 a6 t169 t174 t176 true)))) = some r := H
  have A11 := Aside0.mk A110
  clear A110
  replace H := Option.bind_eq_some_iff.mp H
  obtain ⟨⟨t177, t178⟩, A120, H⟩ := H
  replace H : ((humpyardref07_Print.f k a0_0 a0_1 a0_2).bind fun bt179 => (if t177.toList = bt179.1.toList then (if t178 = bt179.2 then ((topic_Name.f a1).bind fun t181 => ((humpyardref07_Name.f k a1).bind fun t182 => (humpyardlaw07_TopicTells.j0 k a1 a2 a6 t169 t174 t176 (t181 != t182)))) else (humpyardlaw07_TopicTells.j0 k a1 a2 a6 t169 t174 t176 true)) else (humpyardlaw07_TopicTells.j0 k a1 a2 a6 t169 t174 t176 true))) = some r := H
  have A12 := Aside0.mk A120
  clear A120
  replace H := Option.bind_eq_some_iff.mp H
  obtain ⟨⟨t179, t180⟩, A130, H⟩ := H
  replace H : (if t177.toList = t179.toList then (if t178 = t180 then ((topic_Name.f a1).bind fun t181 => ((humpyardref07_Name.f k a1).bind fun t182 => (humpyardlaw07_TopicTells.j0 k a1 a2 a6 t169 t174 t176 (t181 != t182)))) else (humpyardlaw07_TopicTells.j0 k a1 a2 a6 t169 t174 t176 true)) else (humpyardlaw07_TopicTells.j0 k a1 a2 a6 t169 t174 t176 true)) = some r := H
  have A13 := Aside0.mk A130
  clear A130
  have HC14 := Aside0.mk H
  clear H
  go_enter Tryd.func3, Tryd.ntmps3
  go_upto_region 7 with (first | ((with_reducible refine gate_dst (N := 7) rfl ?_); refine box_event ?hg (N := 7) ?hd (cs := #[.string a0_0, .string a0_1, .string a0_2]) (t := 23) ?hr ?_; (case hd => rfl); (case hg => rfl); (case hr => first | (go_simp; done) | (go_simp; rfl)); intro gb168 hg w15 hbox hb; have n0_ := Aside0.mk (below_step (by repeat (first | (with_reducible first | exact HB.out | apply below_alloc | apply pw_below_drewN | apply below_drew1) | exact HB.out)) hb); have n1_ := Aside0.mk (hbox); have n2_ := Aside0.mk ((by rw [hg]; exact (below_size (by repeat (first | (with_reducible first | exact HB.out | apply below_alloc | apply pw_below_drewN | apply below_drew1) | exact HB.out))) : w.heap.size ≤ gb168)); have n3_ := Aside0.mk ((by rw [hg]; exact (below_size (by repeat (first | (with_reducible first | exact HB.out | apply below_alloc | apply pw_below_drewN | apply below_drew1) | exact HB.out))) : w.heap.size ≤ gb168)); clear HB; have HB := n0_; have BK168 := n1_; have GW168 := n2_; have GE168 := n3_; clear n0_ n1_ n2_ n3_; clear hb hbox hg) | ((with_reducible refine gate_callee (f := 7) rfl ?_); refine goesL_ (some 30) rfl rfl Tryd.func7 (by kernel_rfl) rfl #[] rfl (by (try simp only [List.map_toArray, List.map_cons, List.map_nil]); first | done | rfl | (simp only [List.length_drop, List.length_take]; rfl)) ?_; (with_reducible refine (humpyardlaw07_awake.calls k  t169 _ A8.out).mono ?_); rintro e w16 ⟨rfl, hb⟩; refine ⟨_, rfl, ?_⟩; have n0_ := Aside0.mk (blk_below (g := gb168) (o := .cells #[.string a0_0, .string a0_1, .string a0_2] 23 (0, 0)) (by (with_reducible repeat (first | refine blk_drewN ?_ _ | refine blk_drew ?_ | refine blk_alloc ?_ _)); exact BK168.out) hb); have n1_ := Aside0.mk (below_step (by repeat (first | (with_reducible first | exact HB.out | apply below_alloc | apply pw_below_drewN | apply below_drew1 | refine below_set ?_ GE168.out) | exact HB.out)) hb); clear BK168; clear HB; have BK168 := n0_; have HB := n1_; clear n0_ n1_; (try clear hb); (try clear hb2); (try clear hk); (try clear hi)) | ((with_reducible refine gate_callee (f := 8) rfl ?_); refine goesL_ (some 34) rfl rfl Tryd.func8 (by kernel_rfl) rfl #[.string a3, .string a1, .int .i64 a4] rfl (by (try simp only [List.map_toArray, List.map_cons, List.map_nil]); first | done | rfl | (simp only [List.length_drop, List.length_take]; rfl)) ?_; (with_reducible refine (humpyardlaw07_Topic.calls a3 a1 a4 t170 t171 t172 _ A9.out).mono ?_); rintro e w17 ⟨rfl, hb⟩; refine ⟨_, rfl, ?_⟩; have n0_ := Aside0.mk (blk_below (g := gb168) (o := .cells #[.string a0_0, .string a0_1, .string a0_2] 23 (0, 0)) (by (with_reducible repeat (first | refine blk_drewN ?_ _ | refine blk_drew ?_ | refine blk_alloc ?_ _)); exact BK168.out) hb); have n1_ := Aside0.mk (below_step (by repeat (first | (with_reducible first | exact HB.out | apply below_alloc | apply pw_below_drewN | apply below_drew1 | refine below_set ?_ GE168.out) | exact HB.out)) hb); clear BK168; clear HB; have BK168 := n0_; have HB := n1_; clear n0_ n1_; (try clear hb); (try clear hb2); (try clear hk); (try clear hi)) | ((with_reducible refine gate_dst (N := 16) rfl ?_); refine box_event ?hg (N := 16) ?hd (cs := #[.string (⟨#[]⟩ : ByteArray), .string (⟨#[]⟩ : ByteArray), .string (⟨#[]⟩ : ByteArray)]) (t := 23) ?hr ?_; (case hd => rfl); (case hg => rfl); (case hr => first | (go_simp; done) | (go_simp; rfl)); intro gb173 hg w18 hbox hb; have n0_ := Aside0.mk (blk_below (g := gb168) (o := .cells #[.string a0_0, .string a0_1, .string a0_2] 23 (0, 0)) (by (with_reducible repeat (first | refine blk_drewN ?_ _ | refine blk_drew ?_ | refine blk_alloc ?_ _)); exact BK168.out) hb); have n1_ := Aside0.mk (below_step (by repeat (first | (with_reducible first | exact HB.out | apply below_alloc | apply pw_below_drewN | apply below_drew1 | refine below_set ?_ GE168.out) | exact HB.out)) hb); have n2_ := Aside0.mk (hbox); have n3_ := Aside0.mk ((by rw [hg]; exact (below_size (by repeat (first | (with_reducible first | exact HB.out | apply below_alloc | apply pw_below_drewN | apply below_drew1 | refine below_set ?_ GE168.out) | exact HB.out))) : w.heap.size ≤ gb173)); have n4_ := Aside0.mk ((by rw [hg]; exact (below_size (by repeat (first | (with_reducible first | exact HB.out | apply below_alloc | apply pw_below_drewN | apply below_drew1 | refine below_set ?_ GE168.out) | exact HB.out))) : w.heap.size ≤ gb173)); have n5_ := Aside0.mk ((by rw [hg]; exact Nat.ne_of_lt (blk_lt (g := gb168) (o := .cells #[.string a0_0, .string a0_1, .string a0_2] 23 (0, 0)) (by (with_reducible repeat (first | refine blk_drewN ?_ _ | refine blk_drew ?_ | refine blk_alloc ?_ _)); exact BK168.out)) : gb168 ≠ gb173)); have n6_ := Aside0.mk ((by rw [hg]; exact Nat.ne_of_gt (blk_lt (g := gb168) (o := .cells #[.string a0_0, .string a0_1, .string a0_2] 23 (0, 0)) (by (with_reducible repeat (first | refine blk_drewN ?_ _ | refine blk_drew ?_ | refine blk_alloc ?_ _)); exact BK168.out)) : gb173 ≠ gb168)); clear BK168; clear HB; have BK168 := n0_; have HB := n1_; have BK173 := n2_; have GW173 := n3_; have GE173 := n4_; have NB168_173 := n5_; have NB173_168 := n6_; clear n0_ n1_ n2_ n3_ n4_ n5_ n6_; clear hb hbox hg; have hnb19 := NB173_168.out; have hnc19 := NB168_173.out; have hcz20_0 : w18.cell? ⟨gb173, 0, none⟩ = some (.string (⟨#[]⟩ : ByteArray)) := (blk_cell BK173.out 0).trans rfl; have hcz20_1 : w18.cell? ⟨gb173, 1, none⟩ = some (.string (⟨#[]⟩ : ByteArray)) := (blk_cell BK173.out 1).trans rfl; have hcz20_2 : w18.cell? ⟨gb173, 2, none⟩ = some (.string (⟨#[]⟩ : ByteArray)) := (blk_cell BK173.out 2).trans rfl; have hfz20_0 := blk_frozen BK173.out 0; have hfz20_1 := blk_frozen BK173.out 1; have hfz20_2 := blk_frozen BK173.out 2) | ((with_reducible refine gate_callee (f := 9) rfl ?_); refine goesL_ (some 37) rfl rfl Tryd.func9 (by kernel_rfl) rfl #[.agg #[.string t170, .string t171, .string t172]] rfl (by (try simp only [List.map_toArray, List.map_cons, List.map_nil]); first | done | rfl | (simp only [List.length_drop, List.length_take]; rfl)) ?_; (with_reducible refine (humpyardref07_Print.calls k t170 t171 t172 t174 t175 _ A10.out).mono ?_); rintro e w21 ⟨rfl, hb⟩; refine ⟨_, rfl, ?_⟩; have n0_ := Aside0.mk (blk_below (g := gb168) (o := .cells #[.string a0_0, .string a0_1, .string a0_2] 23 (0, 0)) (by (with_reducible repeat (first | refine blk_drewN ?_ _ | refine blk_drew ?_ | refine blk_alloc ?_ _)); refine blk_far ?_ NB168_173.out _; (with_reducible repeat (first | refine blk_drewN ?_ _ | refine blk_drew ?_ | refine blk_alloc ?_ _)); refine blk_far ?_ NB168_173.out _; (with_reducible repeat (first | refine blk_drewN ?_ _ | refine blk_drew ?_ | refine blk_alloc ?_ _)); refine blk_far ?_ NB168_173.out _; (with_reducible repeat (first | refine blk_drewN ?_ _ | refine blk_drew ?_ | refine blk_alloc ?_ _)); exact BK168.out) hb); have n1_ := Aside0.mk (blk_below (g := gb173) (o := .cells #[.string t170, .string t171, .string t172] 23 (0, 0)) (by (with_reducible repeat (first | refine blk_drewN ?_ _ | refine blk_drew ?_ | refine blk_alloc ?_ _)); refine blk_put (cs := #[.string t170, .string t171, .string (⟨#[]⟩ : ByteArray)]) ?_ 2 _ rfl; (with_reducible repeat (first | refine blk_drewN ?_ _ | refine blk_drew ?_ | refine blk_alloc ?_ _)); refine blk_put (cs := #[.string t170, .string (⟨#[]⟩ : ByteArray), .string (⟨#[]⟩ : ByteArray)]) ?_ 1 _ rfl; (with_reducible repeat (first | refine blk_drewN ?_ _ | refine blk_drew ?_ | refine blk_alloc ?_ _)); refine blk_put (cs := #[.string (⟨#[]⟩ : ByteArray), .string (⟨#[]⟩ : ByteArray), .string (⟨#[]⟩ : ByteArray)]) ?_ 0 _ rfl; (with_reducible repeat (first | refine blk_drewN ?_ _ | refine blk_drew ?_ | refine blk_alloc ?_ _)); exact BK173.out) hb); have n2_ := Aside0.mk (below_step (by repeat (first | (with_reducible first | exact HB.out | apply below_alloc | apply pw_below_drewN | apply below_drew1 | refine below_set ?_ GE168.out | refine below_set ?_ GE173.out) | exact HB.out)) hb); clear BK168; clear BK173; clear HB; have BK168 := n0_; have BK173 := n1_; have HB := n2_; clear n0_ n1_ n2_; (try clear hb); (try clear hb2); (try clear hk); (try clear hi)) | ((with_reducible refine gate_callee (f := 10) rfl ?_); refine goesL_ (some 44) rfl rfl Tryd.func10 (by kernel_rfl) rfl #[.int .i64 a5, .int .i64 (wrap64 ((t174.size : Int) + 1))] rfl (by (try simp only [List.map_toArray, List.map_cons, List.map_nil]); first | done | rfl | (simp only [List.length_drop, List.length_take]; rfl)) ?_; (with_reducible refine (humpyardlaw07_pick.calls a5 (wrap64 ((t174.size : Int) + 1)) t176 _ A11.out).mono ?_); rintro e w' ⟨rfl, ⟨nd, rfl⟩⟩; refine ⟨_, rfl, ?_⟩; have hcz22_0 : w21.cell? ⟨gb168, 0, none⟩ = some (.string a0_0) := (blk_cell BK168.out 0).trans rfl; have hcz22_1 : w21.cell? ⟨gb168, 1, none⟩ = some (.string a0_1) := (blk_cell BK168.out 1).trans rfl; have hcz22_2 : w21.cell? ⟨gb168, 2, none⟩ = some (.string a0_2) := (blk_cell BK168.out 2).trans rfl; have hfz22_0 := blk_frozen BK168.out 0; have hfz22_1 := blk_frozen BK168.out 1; have hfz22_2 := blk_frozen BK168.out 2) | ((with_reducible refine gate_callee (f := 11) rfl ?_); refine goesL_ (some 47) rfl rfl Tryd.func11 (by kernel_rfl) rfl #[.agg #[.string a0_0, .string a0_1, .string a0_2]] rfl (by (try simp only [List.map_toArray, List.map_cons, List.map_nil]); first | done | rfl | (simp only [List.length_drop, List.length_take]; rfl)) ?_; (with_reducible refine (topic_Print.calls k a0_0 a0_1 a0_2 t177 t178 _ A12.out).mono ?_); rintro e w23 ⟨rfl, hb⟩; refine ⟨_, rfl, ?_⟩; have n0_ := Aside0.mk (blk_below (g := gb168) (o := .cells #[.string a0_0, .string a0_1, .string a0_2] 23 (0, 0)) (by (with_reducible repeat (first | refine blk_drewN ?_ _ | refine blk_drew ?_ | refine blk_alloc ?_ _)); exact BK168.out) hb); have n1_ := Aside0.mk (blk_below (g := gb173) (o := .cells #[.string t170, .string t171, .string t172] 23 (0, 0)) (by (with_reducible repeat (first | refine blk_drewN ?_ _ | refine blk_drew ?_ | refine blk_alloc ?_ _)); exact BK173.out) hb); have n2_ := Aside0.mk (below_step (by repeat (first | (with_reducible first | exact HB.out | apply below_alloc | apply pw_below_drewN | apply below_drew1 | refine below_set ?_ GE168.out | refine below_set ?_ GE173.out) | exact HB.out)) hb); clear BK168; clear BK173; clear HB; have BK168 := n0_; have BK173 := n1_; have HB := n2_; clear n0_ n1_ n2_; (try clear hb); (try clear hb2); (try clear hk); (try clear hi); have hcz24_0 : w23.cell? ⟨gb168, 0, none⟩ = some (.string a0_0) := (blk_cell BK168.out 0).trans rfl; have hcz24_1 : w23.cell? ⟨gb168, 1, none⟩ = some (.string a0_1) := (blk_cell BK168.out 1).trans rfl; have hcz24_2 : w23.cell? ⟨gb168, 2, none⟩ = some (.string a0_2) := (blk_cell BK168.out 2).trans rfl; have hfz24_0 := blk_frozen BK168.out 0; have hfz24_1 := blk_frozen BK168.out 1; have hfz24_2 := blk_frozen BK168.out 2) | ((with_reducible refine gate_callee (f := 9) rfl ?_); refine goesL_ (some 52) rfl rfl Tryd.func9 (by kernel_rfl) rfl #[.agg #[.string a0_0, .string a0_1, .string a0_2]] rfl (by (try simp only [List.map_toArray, List.map_cons, List.map_nil]); first | done | rfl | (simp only [List.length_drop, List.length_take]; rfl)) ?_; (with_reducible refine (humpyardref07_Print.calls k a0_0 a0_1 a0_2 t179 t180 _ A13.out).mono ?_); rintro e w25 ⟨rfl, hb⟩; refine ⟨_, rfl, ?_⟩; have n0_ := Aside0.mk (blk_below (g := gb168) (o := .cells #[.string a0_0, .string a0_1, .string a0_2] 23 (0, 0)) (by (with_reducible repeat (first | refine blk_drewN ?_ _ | refine blk_drew ?_ | refine blk_alloc ?_ _)); exact BK168.out) hb); have n1_ := Aside0.mk (blk_below (g := gb173) (o := .cells #[.string t170, .string t171, .string t172] 23 (0, 0)) (by (with_reducible repeat (first | refine blk_drewN ?_ _ | refine blk_drew ?_ | refine blk_alloc ?_ _)); exact BK173.out) hb); have n2_ := Aside0.mk (below_step (by repeat (first | (with_reducible first | exact HB.out | apply below_alloc | apply pw_below_drewN | apply below_drew1 | refine below_set ?_ GE168.out | refine below_set ?_ GE173.out) | exact HB.out)) hb); clear BK168; clear BK173; clear HB; have BK168 := n0_; have BK173 := n1_; have HB := n2_; clear n0_ n1_ n2_; (try clear hb); (try clear hb2); (try clear hk); (try clear hi)))
  (try simp only [Act.put, List.setIfInBounds_toArray, List.set_cons_zero, List.set_cons_succ])
  go_cut [69] (fun v69 wc => ∃ (kq : Nat) (x69_13 : Bool), v69 = .bool x69_13 ∧ Aside0 (humpyardlaw07_TopicTells.j0 kq a1 a2 a6 t169 t174 t176 x69_13 = some r) ∧ Aside0 (kq ≤ k) ∧ Aside0 (wc.heap[gb168]? = some (.cells #[.string a0_0, .string a0_1, .string a0_2] 23 (0, 0))) ∧ Aside0 (wc.heap[gb173]? = some (.cells #[.string t170, .string t171, .string t172] 23 (0, 0))) ∧ Aside0 (Below w.heap.size w wc))
  case first =>
    have H := HC14.out
    clear HC14
    by_cases c26 : t177.toList = t179.toList
    · rw [if_pos c26] at H
      have c26b0 : (t177.toList == t179.toList) = true := beq_iff_eq.mpr c26
      have c26b1 : (t177.toList != t179.toList) = false := bne_eq_false_iff_eq.mpr c26
      clear c26
      (first | rw [c26b0] | (simp only [i64_w, i32_w]; rw [c26b0]) | skip)
      by_cases c27 : t178 = t180
      · rw [if_pos c27] at H
        have c27b0 : (t178 == t180) = true := beq_iff_eq.mpr c27
        have c27b1 : (t178 != t180) = false := bne_eq_false_iff_eq.mpr c27
        clear c27
        replace H := Option.bind_eq_some_iff.mp H
        obtain ⟨t181, A280, H⟩ := H
        replace H : ((humpyardref07_Name.f k a1).bind fun t182 => (humpyardlaw07_TopicTells.j0 k a1 a2 a6 t169 t174 t176 (t181 != t182))) = some r := H
        have A28 := Aside0.mk A280
        clear A280
        replace H := Option.bind_eq_some_iff.mp H
        obtain ⟨t182, A290, H⟩ := H
        replace H : (humpyardlaw07_TopicTells.j0 k a1 a2 a6 t169 t174 t176 (t181 != t182)) = some r := H
        have A29 := Aside0.mk A290
        clear A290
        have H' := Aside0.mk H
        clear H
        go_wp2_with (first | (go_at_call 12; (with_reducible refine (topic_Name.calls a1 t181 _ A28.out).mono ?_); rintro e w30 ⟨rfl, hb⟩; have n0_ := Aside0.mk (blk_below (g := gb168) (o := .cells #[.string a0_0, .string a0_1, .string a0_2] 23 (0, 0)) (by (with_reducible repeat (first | refine blk_drewN ?_ _ | refine blk_drew ?_ | refine blk_alloc ?_ _)); exact BK168.out) hb); have n1_ := Aside0.mk (blk_below (g := gb173) (o := .cells #[.string t170, .string t171, .string t172] 23 (0, 0)) (by (with_reducible repeat (first | refine blk_drewN ?_ _ | refine blk_drew ?_ | refine blk_alloc ?_ _)); exact BK173.out) hb); have n2_ := Aside0.mk (below_step (by repeat (first | (with_reducible first | exact HB.out | apply below_alloc | apply pw_below_drewN | apply below_drew1 | refine below_set ?_ GE168.out | refine below_set ?_ GE173.out) | exact HB.out)) hb); clear BK168; clear BK173; clear HB; have BK168 := n0_; have BK173 := n1_; have HB := n2_; clear n0_ n1_ n2_; (try clear hb); (try clear hb2); (try clear hk); (try clear hi)) | (go_at_call 13; (with_reducible refine (humpyardref07_Name.calls k a1 t182 _ A29.out).mono ?_); rintro e w' ⟨rfl, ⟨nd, rfl⟩⟩))
        go_meet
        case rel => exact ⟨_, ((t181 != t182)), (by first | rfl | (simp; done) | (simp [*]; done)), H', ⟨by first | omega | exact Nat.le_refl _⟩, ⟨by (with_reducible repeat (first | refine blk_drewN ?_ _ | refine blk_drew ?_ | refine blk_alloc ?_ _)); exact BK168.out⟩, ⟨by (with_reducible repeat (first | refine blk_drewN ?_ _ | refine blk_drew ?_ | refine blk_alloc ?_ _)); exact BK173.out⟩, ⟨by repeat (first | (with_reducible first | exact HB.out | apply below_alloc | apply pw_below_drewN | apply below_drew1 | refine below_set ?_ GE168.out | refine below_set ?_ GE173.out) | exact HB.out)⟩⟩
      · rw [if_neg c27] at H
        have c27b0 : (t178 == t180) = false := beq_eq_false_iff_ne.mpr c27
        have c27b1 : (t178 != t180) = true := bne_iff_ne.mpr c27
        have H' := Aside0.mk H
        clear H
        go_wp2
        go_meet
        case rel => exact ⟨_, (true), (by first | rfl | (simp; done) | (simp [*]; done)), H', ⟨by first | omega | exact Nat.le_refl _⟩, ⟨by (with_reducible repeat (first | refine blk_drewN ?_ _ | refine blk_drew ?_ | refine blk_alloc ?_ _)); exact BK168.out⟩, ⟨by (with_reducible repeat (first | refine blk_drewN ?_ _ | refine blk_drew ?_ | refine blk_alloc ?_ _)); exact BK173.out⟩, ⟨by repeat (first | (with_reducible first | exact HB.out | apply below_alloc | apply pw_below_drewN | apply below_drew1 | refine below_set ?_ GE168.out | refine below_set ?_ GE173.out) | exact HB.out)⟩⟩
    · rw [if_neg c26] at H
      have c26b0 : (t177.toList == t179.toList) = false := beq_eq_false_iff_ne.mpr c26
      have c26b1 : (t177.toList != t179.toList) = true := bne_iff_ne.mpr c26
      (first | rw [c26b0] | (simp only [i64_w, i32_w]; rw [c26b0]) | skip)
      have H' := Aside0.mk H
      clear H
      go_wp2
      go_meet
      case rel => exact ⟨_, (true), (by first | rfl | (simp; done) | (simp [*]; done)), H', ⟨by first | omega | exact Nat.le_refl _⟩, ⟨by (with_reducible repeat (first | refine blk_drewN ?_ _ | refine blk_drew ?_ | refine blk_alloc ?_ _)); exact BK168.out⟩, ⟨by (with_reducible repeat (first | refine blk_drewN ?_ _ | refine blk_drew ?_ | refine blk_alloc ?_ _)); exact BK173.out⟩, ⟨by repeat (first | (with_reducible first | exact HB.out | apply below_alloc | apply pw_below_drewN | apply below_drew1 | refine below_set ?_ GE168.out | refine below_set ?_ GE173.out) | exact HB.out)⟩⟩
  case rest =>
    clear HC14
    try clear c1
    try clear c2
    try clear p2
    try clear c3
    try clear p6
    try clear c7
    try clear c8
    try clear c9
    try clear c10
    try clear c11
    try clear c19
    try clear c26
    try clear c26b0
    try clear c26b1
    try clear c27
    try clear c27b0
    try clear c27b1
    try clear hcz20_0
    try clear hcz20_1
    try clear hcz20_2
    try clear hcz22_0
    try clear hcz22_1
    try clear hcz22_2
    try clear hcz24_0
    try clear hcz24_1
    try clear hcz24_2
    try clear hfz20_0
    try clear hfz20_1
    try clear hfz20_2
    try clear hfz22_0
    try clear hfz22_1
    try clear hfz22_2
    try clear hfz24_0
    try clear hfz24_1
    try clear hfz24_2
    obtain ⟨kq, x69_13, rfl, HA, HJ13, BK168, BK173, HB⟩ := hcut
    cases kq with
    | zero => exact absurd HA.out (by simp [humpyardlaw07_TopicTells.j0])
    | succ kj13 =>
      have H := HA.out
      clear HA
      simp only [humpyardlaw07_TopicTells.j0] at H
      by_cases c31 : x69_13 = true
      · subst c31
        have H1 : (none) = some r := by rw [if_pos rfl] at H; exact H
        clear H
        have H := H1
        clear H1
        exact absurd H (by simp)
      · replace c31 := Bool.eq_false_iff.mpr c31
        subst c31
        have H1 : (if 0 ≤ t176 then (if t176 ≤ (t174.size : Int) then (if (t174.extract 0 (t176 : Int).toNat).size + a6.size ≤ 9223372036854775807 then (if 0 ≤ (mn (wrap64 (t176 + (a6.size : Int))) (t174.size : Int)) then (if (mn (wrap64 (t176 + (a6.size : Int))) (t174.size : Int)) ≤ (t174.size : Int) then (if ((t174.extract 0 (t176 : Int).toNat) ++ a6).size + (t174.extract ((mn (wrap64 (t176 + (a6.size : Int))) (t174.size : Int)) : Int).toNat t174.size).size ≤ 9223372036854775807 then (if ((t174.extract 0 (t176 : Int).toNat) ++ a6).size + (t174.extract (t176 : Int).toNat t174.size).size ≤ 9223372036854775807 then ((some (([a1, t174, ((t174.extract 0 (t176 : Int).toNat) ++ a6) ++ (t174.extract ((mn (wrap64 (t176 + (a6.size : Int))) (t174.size : Int)) : Int).toNat t174.size), ((t174.extract 0 (t176 : Int).toNat) ++ a6) ++ (t174.extract (t176 : Int).toNat t174.size)] : List ByteArray) : List ByteArray)).bind fun y183 => (humpyardlaw07_TopicTells.l0 kj13 a2 t169 y183 (y183.length : Int) 0)) else (none)) else (none)) else (none)) else (none)) else (none)) else (none)) else (none)) = some r := by rw [if_neg (show ¬ (false = true) by decide)] at H; exact H
        clear H
        have H := H1
        clear H1
        by_cases c32 : 0 ≤ t176
        · rw [if_pos c32] at H
          have c32b0 := eq_true c32
          have c32b1 : decide (0 ≤ t176) = true := decide_eq_true c32
          clear c32
          by_cases c33 : t176 ≤ (t174.size : Int)
          · rw [if_pos c33] at H
            have c33b0 := eq_true c33
            have c33b1 : decide (t176 ≤ (t174.size : Int)) = true := decide_eq_true c33
            clear c33
            by_cases c34 : (t174.extract 0 (t176 : Int).toNat).size + a6.size ≤ 9223372036854775807
            · rw [if_pos c34] at H
              have c34b0 := eq_true c34
              have c34b1 : decide ((t174.extract 0 (t176 : Int).toNat).size + a6.size ≤ 9223372036854775807) = true := decide_eq_true c34
              try have c34b2 : (9223372036854775807 < (t174.extract 0 (t176 : Int).toNat).size + a6.size) = False := eq_false (Nat.not_lt.2 c34)
              have c34b3 : ¬ (9223372036854775807 < (t176).toNat + a6.size) := by -- SIZES
                have z_ := c34
                simp only [ByteArray.size_append, ByteArray.size_extract] at z_
                have q0_ : t176 ≤ (t174.size : Int) := of_decide_eq_true (by first | (with_reducible assumption) | assumption)
                have r0_ : 0 ≤ t176 := of_decide_eq_true (by first | (with_reducible assumption) | assumption)
                clear c34b0 c34b1
                omega
              obtain ⟨ji35, hji35⟩ : ∃ j_ : Int, (mn (wrap64 (t176 + (a6.size : Int))) (t174.size : Int)) = j_ := ⟨_, rfl⟩
              replace H : (if 0 ≤ (ji35) then (if (ji35) ≤ (t174.size : Int) then (if ((t174.extract 0 (t176 : Int).toNat) ++ a6).size + (t174.extract ((ji35) : Int).toNat t174.size).size ≤ 9223372036854775807 then (if ((t174.extract 0 (t176 : Int).toNat) ++ a6).size + (t174.extract (t176 : Int).toNat t174.size).size ≤ 9223372036854775807 then ((some (([a1, t174, ((t174.extract 0 (t176 : Int).toNat) ++ a6) ++ (t174.extract ((ji35) : Int).toNat t174.size), ((t174.extract 0 (t176 : Int).toNat) ++ a6) ++ (t174.extract (t176 : Int).toNat t174.size)] : List ByteArray) : List ByteArray)).bind fun y183 => (humpyardlaw07_TopicTells.l0 kj13 a2 t169 y183 (y183.length : Int) 0)) else (none)) else (none)) else (none)) else (none)) = some r := by first | (rw [hji35] at H; exact H) | (simp only [hji35] at H ⊢; exact H)
              have hji35_ : (if (t174.size : Int) < (wrap64 (t176 + (a6.size : Int))) then (t174.size : Int) else (wrap64 (t176 + (a6.size : Int)))) = ji35 := hji35
              by_cases c36 : 0 ≤ (ji35)
              · rw [if_pos c36] at H
                have c36b0 := eq_true c36
                have c36b1 : decide (0 ≤ (ji35)) = true := decide_eq_true c36
                clear c36
                by_cases c37 : (ji35) ≤ (t174.size : Int)
                · rw [if_pos c37] at H
                  have c37b0 := eq_true c37
                  have c37b1 : decide ((ji35) ≤ (t174.size : Int)) = true := decide_eq_true c37
                  clear c37
                  by_cases c38 : ((t174.extract 0 (t176 : Int).toNat) ++ a6).size + (t174.extract ((ji35) : Int).toNat t174.size).size ≤ 9223372036854775807
                  · rw [if_pos c38] at H
                    have c38b0 := eq_true c38
                    have c38b1 : decide (((t174.extract 0 (t176 : Int).toNat) ++ a6).size + (t174.extract ((ji35) : Int).toNat t174.size).size ≤ 9223372036854775807) = true := decide_eq_true c38
                    try have c38b2 : (9223372036854775807 < ((t174.extract 0 (t176 : Int).toNat) ++ a6).size + (t174.extract ((ji35) : Int).toNat t174.size).size) = False := eq_false (Nat.not_lt.2 c38)
                    have c38b3 : ¬ (9223372036854775807 < ((t176).toNat + a6.size) + (t174.size - (ji35).toNat)) := by -- SIZES
                      have z_ := c38
                      simp only [ByteArray.size_append, ByteArray.size_extract] at z_
                      have q0_ : t176 ≤ (t174.size : Int) := of_decide_eq_true (by first | (with_reducible assumption) | assumption)
                      have r0_ : 0 ≤ t176 := of_decide_eq_true (by first | (with_reducible assumption) | assumption)
                      have s0_ : ji35 ≤ (t174.size : Int) := of_decide_eq_true (by first | (with_reducible assumption) | assumption)
                      have t0_ : 0 ≤ ji35 := of_decide_eq_true (by first | (with_reducible assumption) | assumption)
                      clear c38b0 c38b1
                      omega
                    have c39b0 := eq_true (of_decide_eq_true (by first | (with_reducible assumption) | assumption) : 0 ≤ t176)
                    have c40b0 := eq_true (of_decide_eq_true (by first | (with_reducible assumption) | assumption) : t176 ≤ (t174.size : Int))
                    have c41b0 := eq_true (of_decide_eq_true (by first | (with_reducible assumption) | assumption) : 0 ≤ t176)
                    have c42b0 := eq_true (of_decide_eq_true (by first | (with_reducible assumption) | assumption) : t176 ≤ (t174.size : Int))
                    by_cases c43 : ((t174.extract 0 (t176 : Int).toNat) ++ a6).size + (t174.extract (t176 : Int).toNat t174.size).size ≤ 9223372036854775807
                    · rw [if_pos c43] at H
                      have c43b0 := eq_true c43
                      have c43b1 : decide (((t174.extract 0 (t176 : Int).toNat) ++ a6).size + (t174.extract (t176 : Int).toNat t174.size).size ≤ 9223372036854775807) = true := decide_eq_true c43
                      try have c43b2 : (9223372036854775807 < ((t174.extract 0 (t176 : Int).toNat) ++ a6).size + (t174.extract (t176 : Int).toNat t174.size).size) = False := eq_false (Nat.not_lt.2 c43)
                      have c43b3 : ¬ (9223372036854775807 < ((t176).toNat + a6.size) + (t174.size - (t176).toNat)) := by -- SIZES
                        have z_ := c43
                        simp only [ByteArray.size_append, ByteArray.size_extract] at z_
                        have q0_ : t176 ≤ (t174.size : Int) := of_decide_eq_true (by first | (with_reducible assumption) | assumption)
                        have r0_ : 0 ≤ t176 := of_decide_eq_true (by first | (with_reducible assumption) | assumption)
                        clear c43b0 c43b1
                        omega
                      obtain ⟨y183, hy183⟩ : ∃ y_ : List ByteArray, y_ = (([a1, t174, ((t174.extract 0 (t176 : Int).toNat) ++ a6) ++ (t174.extract ((ji35) : Int).toNat t174.size), ((t174.extract 0 (t176 : Int).toNat) ++ a6) ++ (t174.extract (t176 : Int).toNat t174.size)] : List ByteArray)) := ⟨_, rfl⟩
                      replace H : (humpyardlaw07_TopicTells.l0 kj13 a2 t169 y183 (y183.length : Int) 0) = some r := by first | (rw [hy183]; with_reducible exact H) | (have H2_ := (Option.bind_some _ _).symm.trans H; rw [hy183]; with_reducible exact H2_) | (have H2_ := (Option.bind_some _ _).symm.trans H; with_reducible exact H2_) | with_reducible exact H | (rw [hy183]; exact H) | exact H
                      have Ny183 := Aside0.mk hy183
                      clear hy183
                      have H' := Aside0.mk H
                      clear H
                      try go_wp2
                      have n0_ := Aside0.mk (blk_drew BK168.out)
                      have n1_ := Aside0.mk (blk_drew BK173.out)
                      have n2_ := Aside0.mk (below_drew1 HB.out)
                      clear BK168
                      clear BK173
                      clear HB
                      have BK168 := n0_
                      have BK173 := n1_
                      have HB := n2_
                      clear n0_ n1_ n2_
                      refine start_ (n := 29) (S := fun w' => True) (ds := []) #[false, false, false, false, false, false, false, false, false, false, false, false, false, false, false, false, false, false, false, false, false, false, false, false, false, false, false, false, false] (by kernel_rfl) rfl rfl trivial (fun hHeld => ?_); refine with_tabW humpyardlaw07_TopicTells.tab9 humpyardlaw07_TopicTells.bits9 (fun HT_ HW_ => ?_)
                      generalize wc.drew = w44 at BK168 BK173 HB hHeld ⊢
                      refine pure_ (i := 0) (N := some 70) (v := ?_) (a' := ?_) #[true, false, false, false, false, false, false, false, false, false, false, false, false, false, false, false, false, false, false, false, false, false, false, false, false, false, false, false, false] rfl rfl (any_of HT_.out (by kernel_rfl)) (fun _ _ _ h => h) (Or.inl ⟨by rfl, ?_⟩) ?_ ?_
                      rotate_left
                      · intro w'
                        go_simp
                        with_reducible rfl
                      rotate_left
                      · simp only [Act.put, List.setIfInBounds_toArray, List.set_cons_zero, List.set_cons_succ, i64_w, i32_w]
                        rfl
                      refine pure_ (i := 1) (N := some 71) (v := ?_) (a' := ?_) #[true, true, false, false, false, false, false, false, false, false, false, false, false, false, false, false, false, false, false, false, false, false, false, false, false, false, false, false, false] rfl rfl (any_of HT_.out (by kernel_rfl)) (fun _ _ _ h => h) (Or.inl ⟨by rfl, ?_⟩) ?_ ?_
                      rotate_left
                      · intro w'
                        go_simp
                        with_reducible rfl
                      rotate_left
                      · simp only [Act.put, List.setIfInBounds_toArray, List.set_cons_zero, List.set_cons_succ, i64_w, i32_w]
                        rfl
                      refine pure_ (i := 2) (N := some 72) (v := ?_) (a' := ?_) #[true, true, true, false, false, false, false, false, false, false, false, false, false, false, false, false, false, false, false, false, false, false, false, false, false, false, false, false, false] rfl rfl (any_of HT_.out (by kernel_rfl)) (fun _ _ _ h => h) (Or.inl ⟨by rfl, ?_⟩) ?_ ?_
                      rotate_left
                      · intro w'
                        go_simp
                        with_reducible rfl
                      rotate_left
                      · simp only [Act.put, List.setIfInBounds_toArray, List.set_cons_zero, List.set_cons_succ, i64_w, i32_w]
                        rfl
                      refine pure_ (i := 3) (N := some 73) (v := ?_) (a' := ?_) #[true, true, true, true, false, false, false, false, false, false, false, false, false, false, false, false, false, false, false, false, false, false, false, false, false, false, false, false, false] rfl rfl (any_of HT_.out (by kernel_rfl)) (fun _ _ _ h => h) (Or.inl ⟨by rfl, ?_⟩) ?_ ?_
                      rotate_left
                      · intro w'
                        go_simp
                        with_reducible rfl
                      rotate_left
                      · simp only [Act.put, List.setIfInBounds_toArray, List.set_cons_zero, List.set_cons_succ, i64_w, i32_w]
                        rfl
                      refine pure_ (i := 4) (N := some 74) (v := ?_) (a' := ?_) #[true, true, true, true, true, false, false, false, false, false, false, false, false, false, false, false, false, false, false, false, false, false, false, false, false, false, false, false, false] rfl rfl (any_of HT_.out (by kernel_rfl)) (fun _ _ _ h => h) (Or.inl ⟨by rfl, ?_⟩) ?_ ?_
                      rotate_left
                      · intro w'
                        go_simp
                        with_reducible rfl
                      rotate_left
                      · simp only [Act.put, List.setIfInBounds_toArray, List.set_cons_zero, List.set_cons_succ, i64_w, i32_w]
                        rfl
                      refine pure_ (i := 5) (N := some 75) (v := ?_) (a' := ?_) #[true, true, true, true, true, true, false, false, false, false, false, false, false, false, false, false, false, false, false, false, false, false, false, false, false, false, false, false, false] rfl rfl (any_of HT_.out (by kernel_rfl)) (fun _ _ _ h => h) (Or.inl ⟨by rfl, ?_⟩) ?_ ?_
                      rotate_left
                      · intro w'
                        go_simp
                        with_reducible rfl
                      rotate_left
                      · simp only [Act.put, List.setIfInBounds_toArray, List.set_cons_zero, List.set_cons_succ, i64_w, i32_w]
                        rfl
                      refine pure_ (i := 6) (N := some 76) (v := ?_) (a' := ?_) #[true, true, true, true, true, true, true, false, false, false, false, false, false, false, false, false, false, false, false, false, false, false, false, false, false, false, false, false, false] rfl rfl (any_of HT_.out (by kernel_rfl)) (fun _ _ _ h => h) (Or.inl ⟨by rfl, ?_⟩) ?_ ?_
                      rotate_left
                      · intro w'
                        go_simp
                        with_reducible rfl
                      rotate_left
                      · simp only [Act.put, List.setIfInBounds_toArray, List.set_cons_zero, List.set_cons_succ, i64_w, i32_w]
                        rfl
                      refine pure_ (i := 7) (N := some 77) (v := ?_) (a' := ?_) #[true, true, true, true, true, true, true, true, false, false, false, false, false, false, false, false, false, false, false, false, false, false, false, false, false, false, false, false, false] rfl rfl (any_of HT_.out (by kernel_rfl)) (fun _ _ _ h => h) (Or.inl ⟨by rfl, ?_⟩) ?_ ?_
                      rotate_left
                      · intro w'
                        go_simp
                        with_reducible rfl
                      rotate_left
                      · simp only [Act.put, List.setIfInBounds_toArray, List.set_cons_zero, List.set_cons_succ, i64_w, i32_w]
                        rfl
                      refine pure_ (i := 8) (N := some 78) (v := ?_) (a' := ?_) #[true, true, true, true, true, true, true, true, true, false, false, false, false, false, false, false, false, false, false, false, false, false, false, false, false, false, false, false, false] rfl rfl (any_of HT_.out (by kernel_rfl)) (fun _ _ _ h => h) (Or.inl ⟨by rfl, ?_⟩) ?_ ?_
                      rotate_left
                      · intro w'
                        go_simp
                        with_reducible rfl
                      rotate_left
                      · simp only [Act.put, List.setIfInBounds_toArray, List.set_cons_zero, List.set_cons_succ, i64_w, i32_w]
                        rfl
                      refine pure_ (i := 9) (N := some 79) (v := ?_) (a' := ?_) #[true, true, true, true, true, true, true, true, true, true, false, false, false, false, false, false, false, false, false, false, false, false, false, false, false, false, false, false, false] rfl rfl (any_of HT_.out (by kernel_rfl)) (fun _ _ _ h => h) (Or.inl ⟨by rfl, ?_⟩) ?_ ?_
                      rotate_left
                      · intro w'
                        go_simp
                        with_reducible rfl
                      rotate_left
                      · simp only [Act.put, List.setIfInBounds_toArray, List.set_cons_zero, List.set_cons_succ, i64_w, i32_w]
                        rfl
                      refine pure_ (i := 10) (N := some 80) (v := ?_) (a' := ?_) #[true, true, true, true, true, true, true, true, true, true, true, false, false, false, false, false, false, false, false, false, false, false, false, false, false, false, false, false, false] rfl rfl (any_of HT_.out (by kernel_rfl)) (fun _ _ _ h => h) (Or.inl ⟨by rfl, ?_⟩) ?_ ?_
                      rotate_left
                      · intro w'
                        go_simp
                        with_reducible rfl
                      rotate_left
                      · simp only [Act.put, List.setIfInBounds_toArray, List.set_cons_zero, List.set_cons_succ, i64_w, i32_w]
                        rfl
                      refine pure_ (i := 11) (N := some 81) (v := ?_) (a' := ?_) #[true, true, true, true, true, true, true, true, true, true, true, true, false, false, false, false, false, false, false, false, false, false, false, false, false, false, false, false, false] rfl rfl (any_of HT_.out (by kernel_rfl)) (fun _ _ _ h => h) (Or.inl ⟨by rfl, ?_⟩) ?_ ?_
                      rotate_left
                      · intro w'
                        go_simp
                        with_reducible rfl
                      rotate_left
                      · simp only [Act.put, List.setIfInBounds_toArray, List.set_cons_zero, List.set_cons_succ, i64_w, i32_w]
                        rfl
                      refine pure_ (i := 12) (N := some 82) (v := ?_) (a' := ?_) #[true, true, true, true, true, true, true, true, true, true, true, true, true, false, false, false, false, false, false, false, false, false, false, false, false, false, false, false, false] rfl rfl (any_of HT_.out (by kernel_rfl)) (fun _ _ _ h => h) (Or.inl ⟨by rfl, ?_⟩) ?_ ?_
                      rotate_left
                      · intro w'
                        go_simp
                        with_reducible rfl
                      rotate_left
                      · simp only [Act.put, List.setIfInBounds_toArray, List.set_cons_zero, List.set_cons_succ, i64_w, i32_w]
                        rfl
                      refine pure_ (i := 13) (N := some 83) (v := ?_) (a' := ?_) #[true, true, true, true, true, true, true, true, true, true, true, true, true, true, false, false, false, false, false, false, false, false, false, false, false, false, false, false, false] rfl rfl (any_of HT_.out (by kernel_rfl)) (fun _ _ _ h => h) (Or.inl ⟨by rfl, ?_⟩) ?_ ?_
                      rotate_left
                      · intro w'
                        go_simp
                        with_reducible rfl
                      rotate_left
                      · simp only [Act.put, List.setIfInBounds_toArray, List.set_cons_zero, List.set_cons_succ, i64_w, i32_w]
                        rfl
                      refine pure_ (i := 14) (N := some 84) (v := ?_) (a' := ?_) #[true, true, true, true, true, true, true, true, true, true, true, true, true, true, true, false, false, false, false, false, false, false, false, false, false, false, false, false, false] rfl rfl (any_of HT_.out (by kernel_rfl)) (fun _ _ _ h => h) (Or.inl ⟨by rfl, ?_⟩) ?_ ?_
                      rotate_left
                      · intro w'
                        go_simp
                        with_reducible rfl
                      rotate_left
                      · simp only [Act.put, List.setIfInBounds_toArray, List.set_cons_zero, List.set_cons_succ, i64_w, i32_w]
                        rfl
                      refine pure_ (i := 15) (N := some 85) (v := ?_) (a' := ?_) #[true, true, true, true, true, true, true, true, true, true, true, true, true, true, true, true, false, false, false, false, false, false, false, false, false, false, false, false, false] rfl rfl (any_of HT_.out (by kernel_rfl)) (fun _ _ _ h => h) (Or.inl ⟨by rfl, ?_⟩) ?_ ?_
                      rotate_left
                      · intro w'
                        go_simp
                        with_reducible rfl
                      rotate_left
                      · simp only [Act.put, List.setIfInBounds_toArray, List.set_cons_zero, List.set_cons_succ, i64_w, i32_w]
                        rfl
                      refine pure_ (i := 16) (N := some 86) (v := ?_) (a' := ?_) #[true, true, true, true, true, true, true, true, true, true, true, true, true, true, true, true, true, false, false, false, false, false, false, false, false, false, false, false, false] rfl rfl (any_of HT_.out (by kernel_rfl)) (fun _ _ _ h => h) (Or.inl ⟨by rfl, ?_⟩) ?_ ?_
                      rotate_left
                      · intro w'
                        go_simp
                        with_reducible rfl
                      rotate_left
                      · simp only [Act.put, List.setIfInBounds_toArray, List.set_cons_zero, List.set_cons_succ, i64_w, i32_w]
                        rfl
                      refine pure_ (i := 17) (N := some 87) (v := ?_) (a' := ?_) #[true, true, true, true, true, true, true, true, true, true, true, true, true, true, true, true, true, true, false, false, false, false, false, false, false, false, false, false, false] rfl rfl (any_of HT_.out (by kernel_rfl)) (fun _ _ _ h => h) (Or.inl ⟨by rfl, ?_⟩) ?_ ?_
                      rotate_left
                      · intro w'
                        go_simp
                        with_reducible rfl
                      rotate_left
                      · simp only [Act.put, List.setIfInBounds_toArray, List.set_cons_zero, List.set_cons_succ, i64_w, i32_w]
                        rfl
                      refine pure_ (i := 18) (N := some 88) (v := ?_) (a' := ?_) #[true, true, true, true, true, true, true, true, true, true, true, true, true, true, true, true, true, true, true, false, false, false, false, false, false, false, false, false, false] rfl rfl (any_of HT_.out (by kernel_rfl)) (fun _ _ _ h => h) (Or.inl ⟨by rfl, ?_⟩) ?_ ?_
                      rotate_left
                      · intro w'
                        go_simp
                        with_reducible rfl
                      rotate_left
                      · simp only [Act.put, List.setIfInBounds_toArray, List.set_cons_zero, List.set_cons_succ, i64_w, i32_w]
                        rfl
                      refine pure_ (i := 19) (N := some 89) (v := ?_) (a' := ?_) #[true, true, true, true, true, true, true, true, true, true, true, true, true, true, true, true, true, true, true, true, false, false, false, false, false, false, false, false, false] rfl rfl (any_of HT_.out (by kernel_rfl)) (fun _ _ _ h => h) (Or.inl ⟨by rfl, ?_⟩) ?_ ?_
                      rotate_left
                      · intro w'
                        go_simp
                        with_reducible rfl
                      rotate_left
                      · simp only [Act.put, List.setIfInBounds_toArray, List.set_cons_zero, List.set_cons_succ, i64_w, i32_w]
                        rfl
                      refine pure_ (i := 20) (N := some 90) (v := ?_) (a' := ?_) #[true, true, true, true, true, true, true, true, true, true, true, true, true, true, true, true, true, true, true, true, true, false, false, false, false, false, false, false, false] rfl rfl (any_of HT_.out (by kernel_rfl)) (fun _ _ _ h => h) (Or.inl ⟨by rfl, ?_⟩) ?_ ?_
                      rotate_left
                      · intro w'
                        go_simp
                        with_reducible rfl
                      rotate_left
                      · simp only [Act.put, List.setIfInBounds_toArray, List.set_cons_zero, List.set_cons_succ, i64_w, i32_w]
                        rfl
                      refine pure_ (i := 21) (N := some 91) (v := ?_) (a' := ?_) #[true, true, true, true, true, true, true, true, true, true, true, true, true, true, true, true, true, true, true, true, true, true, false, false, false, false, false, false, false] rfl rfl (any_of HT_.out (by kernel_rfl)) (fun _ _ _ h => h) (Or.inl ⟨by rfl, ?_⟩) ?_ ?_
                      rotate_left
                      · intro w'
                        go_simp
                        with_reducible rfl
                      rotate_left
                      · simp only [Act.put, List.setIfInBounds_toArray, List.set_cons_zero, List.set_cons_succ, i64_w, i32_w]
                        rfl
                      refine pure_ (i := 22) (N := some 92) (v := ?_) (a' := ?_) #[true, true, true, true, true, true, true, true, true, true, true, true, true, true, true, true, true, true, true, true, true, true, true, false, false, false, false, false, false] rfl rfl (any_of HT_.out (by kernel_rfl)) (fun _ _ _ h => h) (Or.inl ⟨by rfl, ?_⟩) ?_ ?_
                      rotate_left
                      · intro w'
                        go_simp
                        with_reducible rfl
                      rotate_left
                      · simp only [Act.put, List.setIfInBounds_toArray, List.set_cons_zero, List.set_cons_succ, i64_w, i32_w]
                        rfl
                      refine pure_ (i := 23) (N := some 93) (v := ?_) (a' := ?_) #[true, true, true, true, true, true, true, true, true, true, true, true, true, true, true, true, true, true, true, true, true, true, true, true, false, false, false, false, false] rfl rfl (any_of HT_.out (by kernel_rfl)) (fun _ _ _ h => h) (Or.inl ⟨by rfl, ?_⟩) ?_ ?_
                      rotate_left
                      · intro w'
                        go_simp
                        with_reducible rfl
                      rotate_left
                      · simp only [Act.put, List.setIfInBounds_toArray, List.set_cons_zero, List.set_cons_succ, i64_w, i32_w]
                        rfl
                      refine pure_ (i := 24) (N := some 94) (v := ?_) (a' := ?_) #[true, true, true, true, true, true, true, true, true, true, true, true, true, true, true, true, true, true, true, true, true, true, true, true, true, false, false, false, false] rfl rfl (any_of HT_.out (by kernel_rfl)) (fun _ _ _ h => h) (Or.inl ⟨by rfl, ?_⟩) ?_ ?_
                      rotate_left
                      · intro w'
                        go_simp
                        with_reducible rfl
                      rotate_left
                      · simp only [Act.put, List.setIfInBounds_toArray, List.set_cons_zero, List.set_cons_succ, i64_w, i32_w]
                        rfl
                      refine pure_ (i := 25) (N := some 95) (v := ?_) (a' := ?_) #[true, true, true, true, true, true, true, true, true, true, true, true, true, true, true, true, true, true, true, true, true, true, true, true, true, true, false, false, false] rfl rfl (any_of HT_.out (by kernel_rfl)) (fun _ _ _ h => h) (Or.inl ⟨by rfl, ?_⟩) ?_ ?_
                      rotate_left
                      · intro w'
                        go_simp
                        with_reducible rfl
                      rotate_left
                      · simp only [Act.put, List.setIfInBounds_toArray, List.set_cons_zero, List.set_cons_succ, i64_w, i32_w]
                        rfl
                      refine pure_ (i := 28) (N := some 98) (v := ?_) (a' := ?_) #[true, true, true, true, true, true, true, true, true, true, true, true, true, true, true, true, true, true, true, true, true, true, true, true, true, true, false, false, true] rfl rfl (any_of HT_.out (by kernel_rfl)) (fun _ _ _ h => h) (Or.inl ⟨by rfl, ?_⟩) ?_ ?_
                      rotate_left
                      · intro w'
                        go_simp
                        with_reducible rfl
                      rotate_left
                      · simp only [Act.put, List.setIfInBounds_toArray, List.set_cons_zero, List.set_cons_succ, i64_w, i32_w]
                        rfl
                      refine one_ (i := 26) (N := some 96) #[true, true, true, true, true, true, true, true, true, true, true, true, true, true, true, true, true, true, true, true, true, true, true, true, true, true, true, false, true] rfl rfl (one_of HT_.out (by kernel_rfl)) (by decide) (fun K hK => ?_)
                      refine Kd.R_lit_step Kd.string _ 9 ?hg (N := 96) ?hd (xs := ([a1, t174, ((t174.extract 0 (t176 : Int).toNat) ++ a6) ++ (t174.extract ((ji35) : Int).toNat t174.size), ((t174.extract 0 (t176 : Int).toNat) ++ a6) ++ (t174.extract (t176 : Int).toNat t174.size)] : List ByteArray)) (inner := [.string a1, .string t174, .string (((t174.extract 0 (t176 : Int).toNat) ++ a6) ++ (t174.extract ((ji35) : Int).toNat t174.size)), .string (((t174.extract 0 (t176 : Int).toNat) ++ a6) ++ (t174.extract (t176 : Int).toNat t174.size))]) (ok := fun _ => True) (okp := fun _ => True) ?hr ?hp (fun _ hk => hk) trivial (Below.refl _ _) (Nat.le_refl _) (by simp) ?_; (case hd => rfl); (case hg => rfl); (case hr => first | (go_simp; done) | (go_simp; rfl)); (case hp => exact (Reps.one (show Kd.M Kd.string _ _ _ a1 [.string a1] from rfl) (Reps.one (show Kd.M Kd.string _ _ _ t174 [.string t174] from rfl) (Reps.one (show Kd.M Kd.string _ _ _ (((t174.extract 0 (t176 : Int).toNat) ++ a6) ++ (t174.extract ((ji35) : Int).toNat t174.size)) [.string (((t174.extract 0 (t176 : Int).toNat) ++ a6) ++ (t174.extract ((ji35) : Int).toNat t174.size))] from rfl) (Reps.one (show Kd.M Kd.string _ _ _ (((t174.extract 0 (t176 : Int).toNat) ++ a6) ++ (t174.extract (t176 : Int).toNat t174.size)) [.string (((t174.extract 0 (t176 : Int).toNat) ++ a6) ++ (t174.extract (t176 : Int).toNat t174.size))] from rfl) (Reps.none _ _))))))
                      intro v184 w45 ho46 hb hg_ hnew_
                      clear hg_ hnew_
                      (first | rw [← Ny183.out] at ho46 | (simp only [Int.reduceToNat] at ho46; rw [← Ny183.out] at ho46))
                      have n0_ := Aside0.mk (Kd.R_lower ho46 (below_size (by repeat (first | (with_reducible first | exact HB.out | apply below_alloc | apply pw_below_drewN | apply below_drew1 | refine below_set ?_ GE168.out | refine below_set ?_ GE173.out) | exact HB.out))))
                      have n1_ := Aside0.mk (blk_below (g := gb168) (o := .cells #[.string a0_0, .string a0_1, .string a0_2] 23 (0, 0)) (by (with_reducible repeat (first | refine blk_drewN ?_ _ | refine blk_drew ?_ | refine blk_alloc ?_ _)); exact BK168.out) hb)
                      have n2_ := Aside0.mk (blk_below (g := gb173) (o := .cells #[.string t170, .string t171, .string t172] 23 (0, 0)) (by (with_reducible repeat (first | refine blk_drewN ?_ _ | refine blk_drew ?_ | refine blk_alloc ?_ _)); exact BK173.out) hb)
                      have n3_ := Aside0.mk (below_step (by repeat (first | (with_reducible first | exact HB.out | apply below_alloc | apply pw_below_drewN | apply below_drew1 | refine below_set ?_ GE168.out | refine below_set ?_ GE173.out) | exact HB.out)) hb)
                      clear BK168
                      clear BK173
                      clear HB
                      have HO185 := n0_
                      have BK168 := n1_
                      have BK173 := n2_
                      have HB := n3_
                      clear n0_ n1_ n2_ n3_
                      clear hb ho46
                      obtain ⟨Ao47, co47, eo47⟩ := Kd.R_slice HO185.out
                      (first | subst eo47 | (injection eo47 with f1_ f2_ f3_; have f4_ := f1_.symm; have f5_ := f3_.symm; clear f1_ f2_ f3_; subst f4_; subst f5_))
                      refine hK.out _ _ trivial (fun hHeld => ?_)
                      clear hK K
                      refine norm_ (a' := ?_) ?_ ?_
                      rotate_left
                      · show Act.put _ (some 96) _ = _
                        simp only [Act.put, List.setIfInBounds_toArray, List.set_cons_zero, List.set_cons_succ, i64_w, i32_w]
                        rfl
                      refine pure_ (i := 27) (N := some 97) (v := ?_) (a' := ?_) #[true, true, true, true, true, true, true, true, true, true, true, true, true, true, true, true, true, true, true, true, true, true, true, true, true, true, true, true, true] rfl rfl (any_of HT_.out (by kernel_rfl)) (fun _ _ _ h => h) (Or.inl ⟨by rfl, ?_⟩) ?_ ?_
                      rotate_left
                      · intro w'
                        go_simp
                        with_reducible rfl
                      rotate_left
                      · simp only [Act.put, List.setIfInBounds_toArray, List.set_cons_zero, List.set_cons_succ, i64_w, i32_w]
                        rfl
                      refine done_ (done_of HT_.out (by kernel_rfl)) ?_
                      try go_wp2
                      go_loopg [98] kj13 (fun kq v98 w' => ∃ (x98_2 : Int), v98 = .int .i64 x98_2 ∧ Aside0 (humpyardlaw07_TopicTells.l0 kq a2 t169 y183 (y183.length : Int) x98_2 = some r) ∧ Aside0 (kq ≤ kj13) ∧ Aside0 (Kd.R Kd.string 9 w' w.heap.size (fun _ => True) (.slice Ao47 y183.length co47) y183) ∧ Aside0 (w'.heap[gb168]? = some (.cells #[.string a0_0, .string a0_1, .string a0_2] 23 (0, 0))) ∧ Aside0 (w'.heap[gb173]? = some (.cells #[.string t170, .string t171, .string t172] 23 (0, 0))) ∧ Aside0 (Below w.heap.size w w'))
                      case atStart => exact ⟨(0), (by first | rfl | (simp; done) | (simp [*]; done)), H', ⟨Nat.le_refl _⟩, ⟨by (with_reducible repeat (first | apply Kd.R_alloc | apply Kd.R_drewN | apply Kd.R_drew)); exact HO185.out⟩, ⟨by (with_reducible repeat (first | refine blk_drewN ?_ _ | refine blk_drew ?_ | refine blk_alloc ?_ _)); exact BK168.out⟩, ⟨by (with_reducible repeat (first | refine blk_drewN ?_ _ | refine blk_drew ?_ | refine blk_alloc ?_ _)); exact BK173.out⟩, ⟨by repeat (first | (with_reducible first | exact HB.out | apply below_alloc | apply pw_below_drewN | apply below_drew1 | refine below_set ?_ GE168.out | refine below_set ?_ GE173.out) | exact HB.out)⟩⟩
                      case round =>
                        clear H'
                        try clear c1
                        try clear c2
                        try clear p2
                        try clear c3
                        try clear c4
                        try clear p6
                        try clear c7
                        try clear c8
                        try clear c9
                        try clear c10
                        try clear c11
                        try clear c19
                        try clear c26
                        try clear c26b0
                        try clear c26b1
                        try clear c27
                        try clear c27b0
                        try clear c27b1
                        try clear c31
                        try clear c32
                        try clear c32b0
                        try clear c32b1
                        try clear c33
                        try clear c33b0
                        try clear c33b1
                        try clear c34
                        try clear c34b0
                        try clear c34b1
                        try clear c34b2
                        try clear c36
                        try clear c36b0
                        try clear c36b1
                        try clear c37
                        try clear c37b0
                        try clear c37b1
                        try clear c38
                        try clear c38b0
                        try clear c38b1
                        try clear c38b2
                        try clear c39
                        try clear c39b0
                        try clear c40
                        try clear c40b0
                        try clear c41
                        try clear c41b0
                        try clear c42
                        try clear c42b0
                        try clear c43
                        try clear c43b0
                        try clear c43b1
                        try clear c43b2
                        try clear hcz20_0
                        try clear hcz20_1
                        try clear hcz20_2
                        try clear hcz22_0
                        try clear hcz22_1
                        try clear hcz22_2
                        try clear hcz24_0
                        try clear hcz24_1
                        try clear hcz24_2
                        try clear hfz20_0
                        try clear hfz20_1
                        try clear hfz20_2
                        try clear hfz22_0
                        try clear hfz22_1
                        try clear hfz22_2
                        try clear hfz24_0
                        try clear hfz24_1
                        try clear hfz24_2
                        try clear p2
                        try clear p6
                        obtain ⟨x98_2, rfl, HA, HK2, HO_96, BK168, BK173, HB⟩ := hrel
                        cases gk with
                        | zero => exact absurd HA.out (by simp [humpyardlaw07_TopicTells.l0])
                        | succ k2 =>
                          have H := HA.out
                          clear HA
                          simp only [humpyardlaw07_TopicTells.l0] at H
                          by_cases c48 : x98_2 < (y183.length : Int)
                          · rw [if_pos c48] at H
                            have c48b0 : decide (x98_2 < (y183.length : Int)) = true := decide_eq_true c48
                            clear c48
                            by_cases c49 : 0 ≤ x98_2
                            · rw [if_pos c49] at H
                              have c49b0 : decide (0 ≤ x98_2) = true := decide_eq_true c49
                              clear c49
                              by_cases c50 : x98_2 < (y183.length : Int)
                              · rw [if_pos c50] at H
                                have c50b0 : decide (x98_2 < (y183.length : Int)) = true := decide_eq_true c50
                                clear c50
                                replace H := Option.bind_eq_some_iff.mp H
                                obtain ⟨⟨t187, t188, t189, t190⟩, A510, H⟩ := H
                                replace H : ((humpyardref07_Parse.f k2 (rdOf ByteArray.empty y183 x98_2)).bind fun bt192 => (if (!(t187.toList == bt192.1.toList) || (!(t188.toList == bt192.2.1.toList) || (!(t189.toList == bt192.2.2.1.toList)))) = true then (none) else (if t190 = bt192.2.2.2 then ((topic_Match.f a2 (rdOf ByteArray.empty y183 x98_2)).bind fun t197 => ((humpyardref07_Match.f k2 a2 (rdOf ByteArray.empty y183 x98_2)).bind fun t198 => (if (t197 != t198) = true then (none) else ((topic_Match.f (rdOf ByteArray.empty y183 x98_2) a2).bind fun t199 => ((humpyardref07_Match.f k2 (rdOf ByteArray.empty y183 x98_2) a2).bind fun t200 => (if (t199 != t200) = true then (none) else (humpyardlaw07_TopicTells.l0 k2 a2 t169 y183 (y183.length : Int) (wrap64 (x98_2 + 1))))))))) else (none)))) = some r := H
                                have A51 := Aside0.mk A510
                                clear A510
                                replace H := Option.bind_eq_some_iff.mp H
                                obtain ⟨⟨t192, t193, t194, t195⟩, A520, H⟩ := H
                                replace H : (if (!(t187.toList == t192.toList) || (!(t188.toList == t193.toList) || (!(t189.toList == t194.toList)))) = true then (none) else (if t190 = t195 then ((topic_Match.f a2 (rdOf ByteArray.empty y183 x98_2)).bind fun t197 => ((humpyardref07_Match.f k2 a2 (rdOf ByteArray.empty y183 x98_2)).bind fun t198 => (if (t197 != t198) = true then (none) else ((topic_Match.f (rdOf ByteArray.empty y183 x98_2) a2).bind fun t199 => ((humpyardref07_Match.f k2 (rdOf ByteArray.empty y183 x98_2) a2).bind fun t200 => (if (t199 != t200) = true then (none) else (humpyardlaw07_TopicTells.l0 k2 a2 t169 y183 (y183.length : Int) (wrap64 (x98_2 + 1))))))))) else (none))) = some r := H
                                have A52 := Aside0.mk A520
                                clear A520
                                by_cases c53 : (!(t187.toList == t192.toList) || (!(t188.toList == t193.toList) || (!(t189.toList == t194.toList)))) = true
                                · rw [if_pos c53] at H
                                  exact absurd H (by simp)
                                · rw [if_neg c53] at H
                                  have c53b0 : (!(t187.toList == t192.toList) || (!(t188.toList == t193.toList) || (!(t189.toList == t194.toList)))) = false := by simpa using c53
                                  clear c53
                                  by_cases c54 : t190 = t195
                                  · rw [if_pos c54] at H
                                    have c54b0 : (t190 == t195) = true := beq_iff_eq.mpr c54
                                    have c54b1 : (t190 != t195) = false := bne_eq_false_iff_eq.mpr c54
                                    clear c54
                                    replace H := Option.bind_eq_some_iff.mp H
                                    obtain ⟨t197, A550, H⟩ := H
                                    replace H : ((humpyardref07_Match.f k2 a2 (rdOf ByteArray.empty y183 x98_2)).bind fun t198 => (if (t197 != t198) = true then (none) else ((topic_Match.f (rdOf ByteArray.empty y183 x98_2) a2).bind fun t199 => ((humpyardref07_Match.f k2 (rdOf ByteArray.empty y183 x98_2) a2).bind fun t200 => (if (t199 != t200) = true then (none) else (humpyardlaw07_TopicTells.l0 k2 a2 t169 y183 (y183.length : Int) (wrap64 (x98_2 + 1)))))))) = some r := H
                                    have A55 := Aside0.mk A550
                                    clear A550
                                    replace H := Option.bind_eq_some_iff.mp H
                                    obtain ⟨t198, A560, H⟩ := H
                                    replace H : (if (t197 != t198) = true then (none) else ((topic_Match.f (rdOf ByteArray.empty y183 x98_2) a2).bind fun t199 => ((humpyardref07_Match.f k2 (rdOf ByteArray.empty y183 x98_2) a2).bind fun t200 => (if (t199 != t200) = true then (none) else (humpyardlaw07_TopicTells.l0 k2 a2 t169 y183 (y183.length : Int) (wrap64 (x98_2 + 1))))))) = some r := H
                                    have A56 := Aside0.mk A560
                                    clear A560
                                    by_cases c57 : (t197 != t198) = true
                                    · rw [if_pos c57] at H
                                      exact absurd H (by simp)
                                    · rw [if_neg c57] at H
                                      have c57b0 : (t197 != t198) = false := by simpa using c57
                                      (try (have c57b1 : decide (t197 = t198) = true := by simpa using c57))
                                      (try (have c57b2 : (t197 == t198) = true := by simpa using c57))
                                      clear c57
                                      replace H := Option.bind_eq_some_iff.mp H
                                      obtain ⟨t199, A580, H⟩ := H
                                      replace H : ((humpyardref07_Match.f k2 (rdOf ByteArray.empty y183 x98_2) a2).bind fun t200 => (if (t199 != t200) = true then (none) else (humpyardlaw07_TopicTells.l0 k2 a2 t169 y183 (y183.length : Int) (wrap64 (x98_2 + 1))))) = some r := H
                                      have A58 := Aside0.mk A580
                                      clear A580
                                      replace H := Option.bind_eq_some_iff.mp H
                                      obtain ⟨t200, A590, H⟩ := H
                                      replace H : (if (t199 != t200) = true then (none) else (humpyardlaw07_TopicTells.l0 k2 a2 t169 y183 (y183.length : Int) (wrap64 (x98_2 + 1)))) = some r := H
                                      have A59 := Aside0.mk A590
                                      clear A590
                                      by_cases c60 : (t199 != t200) = true
                                      · rw [if_pos c60] at H
                                        exact absurd H (by simp)
                                      · rw [if_neg c60] at H
                                        have c60b0 : (t199 != t200) = false := by simpa using c60
                                        (try (have c60b1 : decide (t199 = t200) = true := by simpa using c60))
                                        (try (have c60b2 : (t199 == t200) = true := by simpa using c60))
                                        clear c60
                                        have H' := Aside0.mk H
                                        clear H
                                        have p186 : 0 ≤ (x98_2 : Int) := of_decide_eq_true (by first | (with_reducible assumption) | assumption)
                                        have q186 : x98_2 < (y183.length : Int) := of_decide_eq_true (by first | (with_reducible assumption) | assumption)
                                        obtain ⟨ad186, e186, hx186_0⟩ := Kd.at_string (Kd.R_reads' HO_96.out).2.2 x98_2 p186 q186
                                        cases e186
                                        replace p186 := eq_true p186
                                        replace q186 := eq_true q186
                                        go_wp2_with (first | ((with_reducible refine gate_callee (f := 14) rfl ?_); refine goesL_ (some 104) rfl rfl Tryd.func14 (by kernel_rfl) rfl #[.string (rdOf ByteArray.empty y183 x98_2)] rfl (by (try simp only [List.map_toArray, List.map_cons, List.map_nil]); first | done | rfl | (simp only [List.length_drop, List.length_take]; rfl)) ?_; (with_reducible refine (topic_Parse.calls (rdOf ByteArray.empty y183 x98_2) t187 t188 t189 t190 _ A51.out).mono ?_); rintro e w61 ⟨rfl, hb⟩; refine ⟨_, rfl, ?_⟩; have n0_ := Aside0.mk (Kd.R_below (by (with_reducible repeat (first | apply Kd.R_alloc | apply Kd.R_drewN | apply Kd.R_drew)); exact HO_96.out) hb); have n1_ := Aside0.mk (blk_below (g := gb168) (o := .cells #[.string a0_0, .string a0_1, .string a0_2] 23 (0, 0)) (by (with_reducible repeat (first | refine blk_drewN ?_ _ | refine blk_drew ?_ | refine blk_alloc ?_ _)); exact BK168.out) hb); have n2_ := Aside0.mk (blk_below (g := gb173) (o := .cells #[.string t170, .string t171, .string t172] 23 (0, 0)) (by (with_reducible repeat (first | refine blk_drewN ?_ _ | refine blk_drew ?_ | refine blk_alloc ?_ _)); exact BK173.out) hb); have n3_ := Aside0.mk (below_step (by repeat (first | (with_reducible first | exact HB.out | apply below_alloc | apply pw_below_drewN | apply below_drew1 | refine below_set ?_ GE168.out | refine below_set ?_ GE173.out) | exact HB.out)) hb); clear HO_96; clear BK168; clear BK173; clear HB; have HO_96 := n0_; have BK168 := n1_; have BK173 := n2_; have HB := n3_; clear n0_ n1_ n2_ n3_; (try clear hb); (try clear hb2); (try clear hk); (try clear hi)) | ((with_reducible refine gate_dst (N := 26) rfl ?_); refine box_event ?hg (N := 26) ?hd (cs := #[.string (⟨#[]⟩ : ByteArray), .string (⟨#[]⟩ : ByteArray), .string (⟨#[]⟩ : ByteArray)]) (t := 23) ?hr ?_; (case hd => rfl); (case hg => rfl); (case hr => first | (go_simp; done) | (go_simp; rfl)); intro gb191 hg w62 hbox hb; have n0_ := Aside0.mk (Kd.R_below (by (with_reducible repeat (first | apply Kd.R_alloc | apply Kd.R_drewN | apply Kd.R_drew)); exact HO_96.out) hb); have n1_ := Aside0.mk (blk_below (g := gb168) (o := .cells #[.string a0_0, .string a0_1, .string a0_2] 23 (0, 0)) (by (with_reducible repeat (first | refine blk_drewN ?_ _ | refine blk_drew ?_ | refine blk_alloc ?_ _)); exact BK168.out) hb); have n2_ := Aside0.mk (blk_below (g := gb173) (o := .cells #[.string t170, .string t171, .string t172] 23 (0, 0)) (by (with_reducible repeat (first | refine blk_drewN ?_ _ | refine blk_drew ?_ | refine blk_alloc ?_ _)); exact BK173.out) hb); have n3_ := Aside0.mk (below_step (by repeat (first | (with_reducible first | exact HB.out | apply below_alloc | apply pw_below_drewN | apply below_drew1 | refine below_set ?_ GE168.out | refine below_set ?_ GE173.out) | exact HB.out)) hb); have n4_ := Aside0.mk (hbox); have n5_ := Aside0.mk ((by rw [hg]; exact (below_size (by repeat (first | (with_reducible first | exact HB.out | apply below_alloc | apply pw_below_drewN | apply below_drew1 | refine below_set ?_ GE168.out | refine below_set ?_ GE173.out) | exact HB.out))) : w.heap.size ≤ gb191)); have n6_ := Aside0.mk ((by rw [hg]; exact (below_size (by repeat (first | (with_reducible first | exact HB.out | apply below_alloc | apply pw_below_drewN | apply below_drew1 | refine below_set ?_ GE168.out | refine below_set ?_ GE173.out) | exact HB.out))) : w.heap.size ≤ gb191)); have n7_ := Aside0.mk ((by rw [hg]; exact Nat.ne_of_lt (blk_lt (g := gb168) (o := .cells #[.string a0_0, .string a0_1, .string a0_2] 23 (0, 0)) (by (with_reducible repeat (first | refine blk_drewN ?_ _ | refine blk_drew ?_ | refine blk_alloc ?_ _)); exact BK168.out)) : gb168 ≠ gb191)); have n8_ := Aside0.mk ((by rw [hg]; exact Nat.ne_of_gt (blk_lt (g := gb168) (o := .cells #[.string a0_0, .string a0_1, .string a0_2] 23 (0, 0)) (by (with_reducible repeat (first | refine blk_drewN ?_ _ | refine blk_drew ?_ | refine blk_alloc ?_ _)); exact BK168.out)) : gb191 ≠ gb168)); have n9_ := Aside0.mk ((by rw [hg]; exact Nat.ne_of_lt (blk_lt (g := gb173) (o := .cells #[.string t170, .string t171, .string t172] 23 (0, 0)) (by (with_reducible repeat (first | refine blk_drewN ?_ _ | refine blk_drew ?_ | refine blk_alloc ?_ _)); exact BK173.out)) : gb173 ≠ gb191)); have n10_ := Aside0.mk ((by rw [hg]; exact Nat.ne_of_gt (blk_lt (g := gb173) (o := .cells #[.string t170, .string t171, .string t172] 23 (0, 0)) (by (with_reducible repeat (first | refine blk_drewN ?_ _ | refine blk_drew ?_ | refine blk_alloc ?_ _)); exact BK173.out)) : gb191 ≠ gb173)); clear HO_96; clear BK168; clear BK173; clear HB; have HO_96 := n0_; have BK168 := n1_; have BK173 := n2_; have HB := n3_; have BK191 := n4_; have GW191 := n5_; have GE191 := n6_; have NB168_191 := n7_; have NB191_168 := n8_; have NB173_191 := n9_; have NB191_173 := n10_; clear n0_ n1_ n2_ n3_ n4_ n5_ n6_ n7_ n8_ n9_ n10_; clear hb hbox hg; have hnb63 := NB191_168.out; have hnc63 := NB168_191.out; have hnb64 := NB191_173.out; have hnc64 := NB173_191.out; have hcz65_0 : w62.cell? ⟨gb191, 0, none⟩ = some (.string (⟨#[]⟩ : ByteArray)) := (blk_cell BK191.out 0).trans rfl; have hcz65_1 : w62.cell? ⟨gb191, 1, none⟩ = some (.string (⟨#[]⟩ : ByteArray)) := (blk_cell BK191.out 1).trans rfl; have hcz65_2 : w62.cell? ⟨gb191, 2, none⟩ = some (.string (⟨#[]⟩ : ByteArray)) := (blk_cell BK191.out 2).trans rfl; have hfz65_0 := blk_frozen BK191.out 0; have hfz65_1 := blk_frozen BK191.out 1; have hfz65_2 := blk_frozen BK191.out 2) | ((with_reducible refine gate_callee (f := 15) rfl ?_); refine goesL_ (some 109) rfl rfl Tryd.func15 (by kernel_rfl) rfl #[.string (rdOf ByteArray.empty y183 x98_2)] rfl (by (try simp only [List.map_toArray, List.map_cons, List.map_nil]); first | done | rfl | (simp only [List.length_drop, List.length_take]; rfl)) ?_; (with_reducible refine (humpyardref07_Parse.calls k2 (rdOf ByteArray.empty y183 x98_2) t192 t193 t194 t195 _ A52.out).mono ?_); rintro e w66 ⟨rfl, hb⟩; refine ⟨_, rfl, ?_⟩; have n0_ := Aside0.mk (Kd.R_below (by (with_reducible repeat (first | apply Kd.R_alloc | apply Kd.R_drewN | apply Kd.R_drew)); exact (Kd.R_mono (Kd.R_far (p := ⟨gb191, 2, none⟩) (Kd.R_far (p := ⟨gb191, 1, none⟩) (Kd.R_far (p := ⟨gb191, 0, none⟩) (Kd.R_types HO_96.out BK191.out (by decide)) (fun _ hk => hk.2) (.string t187)) (fun _ hk => hk.2) (.string t188)) (fun _ hk => hk.2) (.string t189)) (fun _ h_ => h_.1))) hb); have n1_ := Aside0.mk (blk_below (g := gb168) (o := .cells #[.string a0_0, .string a0_1, .string a0_2] 23 (0, 0)) (by (with_reducible repeat (first | refine blk_drewN ?_ _ | refine blk_drew ?_ | refine blk_alloc ?_ _)); refine blk_far ?_ NB168_191.out _; (with_reducible repeat (first | refine blk_drewN ?_ _ | refine blk_drew ?_ | refine blk_alloc ?_ _)); refine blk_far ?_ NB168_191.out _; (with_reducible repeat (first | refine blk_drewN ?_ _ | refine blk_drew ?_ | refine blk_alloc ?_ _)); refine blk_far ?_ NB168_191.out _; (with_reducible repeat (first | refine blk_drewN ?_ _ | refine blk_drew ?_ | refine blk_alloc ?_ _)); exact BK168.out) hb); have n2_ := Aside0.mk (blk_below (g := gb173) (o := .cells #[.string t170, .string t171, .string t172] 23 (0, 0)) (by (with_reducible repeat (first | refine blk_drewN ?_ _ | refine blk_drew ?_ | refine blk_alloc ?_ _)); refine blk_far ?_ NB173_191.out _; (with_reducible repeat (first | refine blk_drewN ?_ _ | refine blk_drew ?_ | refine blk_alloc ?_ _)); refine blk_far ?_ NB173_191.out _; (with_reducible repeat (first | refine blk_drewN ?_ _ | refine blk_drew ?_ | refine blk_alloc ?_ _)); refine blk_far ?_ NB173_191.out _; (with_reducible repeat (first | refine blk_drewN ?_ _ | refine blk_drew ?_ | refine blk_alloc ?_ _)); exact BK173.out) hb); have n3_ := Aside0.mk (blk_below (g := gb191) (o := .cells #[.string t187, .string t188, .string t189] 23 (0, 0)) (by (with_reducible repeat (first | refine blk_drewN ?_ _ | refine blk_drew ?_ | refine blk_alloc ?_ _)); refine blk_put (cs := #[.string t187, .string t188, .string (⟨#[]⟩ : ByteArray)]) ?_ 2 _ rfl; (with_reducible repeat (first | refine blk_drewN ?_ _ | refine blk_drew ?_ | refine blk_alloc ?_ _)); refine blk_put (cs := #[.string t187, .string (⟨#[]⟩ : ByteArray), .string (⟨#[]⟩ : ByteArray)]) ?_ 1 _ rfl; (with_reducible repeat (first | refine blk_drewN ?_ _ | refine blk_drew ?_ | refine blk_alloc ?_ _)); refine blk_put (cs := #[.string (⟨#[]⟩ : ByteArray), .string (⟨#[]⟩ : ByteArray), .string (⟨#[]⟩ : ByteArray)]) ?_ 0 _ rfl; (with_reducible repeat (first | refine blk_drewN ?_ _ | refine blk_drew ?_ | refine blk_alloc ?_ _)); exact BK191.out) hb); have n4_ := Aside0.mk (below_step (by repeat (first | (with_reducible first | exact HB.out | apply below_alloc | apply pw_below_drewN | apply below_drew1 | refine below_set ?_ GE168.out | refine below_set ?_ GE173.out | refine below_set ?_ GE191.out) | exact HB.out)) hb); clear HO_96; clear BK168; clear BK173; clear BK191; clear HB; have HO_96 := n0_; have BK168 := n1_; have BK173 := n2_; have BK191 := n3_; have HB := n4_; clear n0_ n1_ n2_ n3_ n4_; (try clear hb); (try clear hb2); (try clear hk); (try clear hi)) | ((with_reducible refine gate_dst (N := 28) rfl ?_); refine box_event ?hg (N := 28) ?hd (cs := #[.string (⟨#[]⟩ : ByteArray), .string (⟨#[]⟩ : ByteArray), .string (⟨#[]⟩ : ByteArray)]) (t := 23) ?hr ?_; (case hd => rfl); (case hg => rfl); (case hr => first | (go_simp; done) | (go_simp; rfl)); intro gb196 hg w67 hbox hb; have n0_ := Aside0.mk (Kd.R_below (by (with_reducible repeat (first | apply Kd.R_alloc | apply Kd.R_drewN | apply Kd.R_drew)); exact HO_96.out) hb); have n1_ := Aside0.mk (blk_below (g := gb168) (o := .cells #[.string a0_0, .string a0_1, .string a0_2] 23 (0, 0)) (by (with_reducible repeat (first | refine blk_drewN ?_ _ | refine blk_drew ?_ | refine blk_alloc ?_ _)); exact BK168.out) hb); have n2_ := Aside0.mk (blk_below (g := gb173) (o := .cells #[.string t170, .string t171, .string t172] 23 (0, 0)) (by (with_reducible repeat (first | refine blk_drewN ?_ _ | refine blk_drew ?_ | refine blk_alloc ?_ _)); exact BK173.out) hb); have n3_ := Aside0.mk (blk_below (g := gb191) (o := .cells #[.string t187, .string t188, .string t189] 23 (0, 0)) (by (with_reducible repeat (first | refine blk_drewN ?_ _ | refine blk_drew ?_ | refine blk_alloc ?_ _)); exact BK191.out) hb); have n4_ := Aside0.mk (below_step (by repeat (first | (with_reducible first | exact HB.out | apply below_alloc | apply pw_below_drewN | apply below_drew1 | refine below_set ?_ GE168.out | refine below_set ?_ GE173.out | refine below_set ?_ GE191.out) | exact HB.out)) hb); have n5_ := Aside0.mk (hbox); have n6_ := Aside0.mk ((by rw [hg]; exact (below_size (by repeat (first | (with_reducible first | exact HB.out | apply below_alloc | apply pw_below_drewN | apply below_drew1 | refine below_set ?_ GE168.out | refine below_set ?_ GE173.out | refine below_set ?_ GE191.out) | exact HB.out))) : w.heap.size ≤ gb196)); have n7_ := Aside0.mk ((by rw [hg]; exact (below_size (by repeat (first | (with_reducible first | exact HB.out | apply below_alloc | apply pw_below_drewN | apply below_drew1 | refine below_set ?_ GE168.out | refine below_set ?_ GE173.out | refine below_set ?_ GE191.out) | exact HB.out))) : w.heap.size ≤ gb196)); have n8_ := Aside0.mk ((by rw [hg]; exact Nat.ne_of_lt (blk_lt (g := gb168) (o := .cells #[.string a0_0, .string a0_1, .string a0_2] 23 (0, 0)) (by (with_reducible repeat (first | refine blk_drewN ?_ _ | refine blk_drew ?_ | refine blk_alloc ?_ _)); exact BK168.out)) : gb168 ≠ gb196)); have n9_ := Aside0.mk ((by rw [hg]; exact Nat.ne_of_gt (blk_lt (g := gb168) (o := .cells #[.string a0_0, .string a0_1, .string a0_2] 23 (0, 0)) (by (with_reducible repeat (first | refine blk_drewN ?_ _ | refine blk_drew ?_ | refine blk_alloc ?_ _)); exact BK168.out)) : gb196 ≠ gb168)); have n10_ := Aside0.mk ((by rw [hg]; exact Nat.ne_of_lt (blk_lt (g := gb173) (o := .cells #[.string t170, .string t171, .string t172] 23 (0, 0)) (by (with_reducible repeat (first | refine blk_drewN ?_ _ | refine blk_drew ?_ | refine blk_alloc ?_ _)); exact BK173.out)) : gb173 ≠ gb196)); have n11_ := Aside0.mk ((by rw [hg]; exact Nat.ne_of_gt (blk_lt (g := gb173) (o := .cells #[.string t170, .string t171, .string t172] 23 (0, 0)) (by (with_reducible repeat (first | refine blk_drewN ?_ _ | refine blk_drew ?_ | refine blk_alloc ?_ _)); exact BK173.out)) : gb196 ≠ gb173)); have n12_ := Aside0.mk ((by rw [hg]; exact Nat.ne_of_lt (blk_lt (g := gb191) (o := .cells #[.string t187, .string t188, .string t189] 23 (0, 0)) (by (with_reducible repeat (first | refine blk_drewN ?_ _ | refine blk_drew ?_ | refine blk_alloc ?_ _)); exact BK191.out)) : gb191 ≠ gb196)); have n13_ := Aside0.mk ((by rw [hg]; exact Nat.ne_of_gt (blk_lt (g := gb191) (o := .cells #[.string t187, .string t188, .string t189] 23 (0, 0)) (by (with_reducible repeat (first | refine blk_drewN ?_ _ | refine blk_drew ?_ | refine blk_alloc ?_ _)); exact BK191.out)) : gb196 ≠ gb191)); clear HO_96; clear BK168; clear BK173; clear BK191; clear HB; have HO_96 := n0_; have BK168 := n1_; have BK173 := n2_; have BK191 := n3_; have HB := n4_; have BK196 := n5_; have GW196 := n6_; have GE196 := n7_; have NB168_196 := n8_; have NB196_168 := n9_; have NB173_196 := n10_; have NB196_173 := n11_; have NB191_196 := n12_; have NB196_191 := n13_; clear n0_ n1_ n2_ n3_ n4_ n5_ n6_ n7_ n8_ n9_ n10_ n11_ n12_ n13_; clear hb hbox hg; have hnb68 := NB196_168.out; have hnc68 := NB168_196.out; have hnb69 := NB196_173.out; have hnc69 := NB173_196.out; have hnb70 := NB196_191.out; have hnc70 := NB191_196.out; have hcz71_0 : w67.cell? ⟨gb196, 0, none⟩ = some (.string (⟨#[]⟩ : ByteArray)) := (blk_cell BK196.out 0).trans rfl; have hcz71_1 : w67.cell? ⟨gb196, 1, none⟩ = some (.string (⟨#[]⟩ : ByteArray)) := (blk_cell BK196.out 1).trans rfl; have hcz71_2 : w67.cell? ⟨gb196, 2, none⟩ = some (.string (⟨#[]⟩ : ByteArray)) := (blk_cell BK196.out 2).trans rfl; have hfz71_0 := blk_frozen BK196.out 0; have hfz71_1 := blk_frozen BK196.out 1; have hfz71_2 := blk_frozen BK196.out 2; have hcz72_0 : w67.cell? ⟨gb191, 0, none⟩ = some (.string t187) := (blk_cell BK191.out 0).trans rfl; have hcz72_1 : w67.cell? ⟨gb191, 1, none⟩ = some (.string t188) := (blk_cell BK191.out 1).trans rfl; have hcz72_2 : w67.cell? ⟨gb191, 2, none⟩ = some (.string t189) := (blk_cell BK191.out 2).trans rfl; have hfz72_0 := blk_frozen BK191.out 0; have hfz72_1 := blk_frozen BK191.out 1; have hfz72_2 := blk_frozen BK191.out 2) | (go_at_call 16; (with_reducible refine (topic_Match.calls a2 (rdOf ByteArray.empty y183 x98_2) t197 _ A55.out).mono ?_); rintro e w73 ⟨rfl, hb⟩; have n0_ := Aside0.mk (Kd.R_below (by (with_reducible repeat (first | apply Kd.R_alloc | apply Kd.R_drewN | apply Kd.R_drew)); exact (Kd.R_mono (Kd.R_far (p := ⟨gb196, 2, none⟩) (Kd.R_far (p := ⟨gb196, 1, none⟩) (Kd.R_far (p := ⟨gb196, 0, none⟩) (Kd.R_types HO_96.out BK196.out (by decide)) (fun _ hk => hk.2) (.string t192)) (fun _ hk => hk.2) (.string t193)) (fun _ hk => hk.2) (.string t194)) (fun _ h_ => h_.1))) hb); have n1_ := Aside0.mk (blk_below (g := gb168) (o := .cells #[.string a0_0, .string a0_1, .string a0_2] 23 (0, 0)) (by (with_reducible repeat (first | refine blk_drewN ?_ _ | refine blk_drew ?_ | refine blk_alloc ?_ _)); refine blk_far ?_ NB168_196.out _; (with_reducible repeat (first | refine blk_drewN ?_ _ | refine blk_drew ?_ | refine blk_alloc ?_ _)); refine blk_far ?_ NB168_196.out _; (with_reducible repeat (first | refine blk_drewN ?_ _ | refine blk_drew ?_ | refine blk_alloc ?_ _)); refine blk_far ?_ NB168_196.out _; (with_reducible repeat (first | refine blk_drewN ?_ _ | refine blk_drew ?_ | refine blk_alloc ?_ _)); exact BK168.out) hb); have n2_ := Aside0.mk (blk_below (g := gb173) (o := .cells #[.string t170, .string t171, .string t172] 23 (0, 0)) (by (with_reducible repeat (first | refine blk_drewN ?_ _ | refine blk_drew ?_ | refine blk_alloc ?_ _)); refine blk_far ?_ NB173_196.out _; (with_reducible repeat (first | refine blk_drewN ?_ _ | refine blk_drew ?_ | refine blk_alloc ?_ _)); refine blk_far ?_ NB173_196.out _; (with_reducible repeat (first | refine blk_drewN ?_ _ | refine blk_drew ?_ | refine blk_alloc ?_ _)); refine blk_far ?_ NB173_196.out _; (with_reducible repeat (first | refine blk_drewN ?_ _ | refine blk_drew ?_ | refine blk_alloc ?_ _)); exact BK173.out) hb); have n3_ := Aside0.mk (blk_below (g := gb191) (o := .cells #[.string t187, .string t188, .string t189] 23 (0, 0)) (by (with_reducible repeat (first | refine blk_drewN ?_ _ | refine blk_drew ?_ | refine blk_alloc ?_ _)); refine blk_far ?_ NB191_196.out _; (with_reducible repeat (first | refine blk_drewN ?_ _ | refine blk_drew ?_ | refine blk_alloc ?_ _)); refine blk_far ?_ NB191_196.out _; (with_reducible repeat (first | refine blk_drewN ?_ _ | refine blk_drew ?_ | refine blk_alloc ?_ _)); refine blk_far ?_ NB191_196.out _; (with_reducible repeat (first | refine blk_drewN ?_ _ | refine blk_drew ?_ | refine blk_alloc ?_ _)); exact BK191.out) hb); have n4_ := Aside0.mk (blk_below (g := gb196) (o := .cells #[.string t192, .string t193, .string t194] 23 (0, 0)) (by (with_reducible repeat (first | refine blk_drewN ?_ _ | refine blk_drew ?_ | refine blk_alloc ?_ _)); refine blk_put (cs := #[.string t192, .string t193, .string (⟨#[]⟩ : ByteArray)]) ?_ 2 _ rfl; (with_reducible repeat (first | refine blk_drewN ?_ _ | refine blk_drew ?_ | refine blk_alloc ?_ _)); refine blk_put (cs := #[.string t192, .string (⟨#[]⟩ : ByteArray), .string (⟨#[]⟩ : ByteArray)]) ?_ 1 _ rfl; (with_reducible repeat (first | refine blk_drewN ?_ _ | refine blk_drew ?_ | refine blk_alloc ?_ _)); refine blk_put (cs := #[.string (⟨#[]⟩ : ByteArray), .string (⟨#[]⟩ : ByteArray), .string (⟨#[]⟩ : ByteArray)]) ?_ 0 _ rfl; (with_reducible repeat (first | refine blk_drewN ?_ _ | refine blk_drew ?_ | refine blk_alloc ?_ _)); exact BK196.out) hb); have n5_ := Aside0.mk (below_step (by repeat (first | (with_reducible first | exact HB.out | apply below_alloc | apply pw_below_drewN | apply below_drew1 | refine below_set ?_ GE168.out | refine below_set ?_ GE173.out | refine below_set ?_ GE191.out | refine below_set ?_ GE196.out) | exact HB.out)) hb); clear HO_96; clear BK168; clear BK173; clear BK191; clear BK196; clear HB; have HO_96 := n0_; have BK168 := n1_; have BK173 := n2_; have BK191 := n3_; have BK196 := n4_; have HB := n5_; clear n0_ n1_ n2_ n3_ n4_ n5_; (try clear hb); (try clear hb2); (try clear hk); (try clear hi)) | (go_at_call 17; (with_reducible refine (humpyardref07_Match.calls k2 a2 (rdOf ByteArray.empty y183 x98_2) t198 _ A56.out).mono ?_); rintro e w74 ⟨rfl, hb⟩; have n0_ := Aside0.mk (Kd.R_below (by (with_reducible repeat (first | apply Kd.R_alloc | apply Kd.R_drewN | apply Kd.R_drew)); exact HO_96.out) hb); have n1_ := Aside0.mk (blk_below (g := gb168) (o := .cells #[.string a0_0, .string a0_1, .string a0_2] 23 (0, 0)) (by (with_reducible repeat (first | refine blk_drewN ?_ _ | refine blk_drew ?_ | refine blk_alloc ?_ _)); exact BK168.out) hb); have n2_ := Aside0.mk (blk_below (g := gb173) (o := .cells #[.string t170, .string t171, .string t172] 23 (0, 0)) (by (with_reducible repeat (first | refine blk_drewN ?_ _ | refine blk_drew ?_ | refine blk_alloc ?_ _)); exact BK173.out) hb); have n3_ := Aside0.mk (blk_below (g := gb191) (o := .cells #[.string t187, .string t188, .string t189] 23 (0, 0)) (by (with_reducible repeat (first | refine blk_drewN ?_ _ | refine blk_drew ?_ | refine blk_alloc ?_ _)); exact BK191.out) hb); have n4_ := Aside0.mk (blk_below (g := gb196) (o := .cells #[.string t192, .string t193, .string t194] 23 (0, 0)) (by (with_reducible repeat (first | refine blk_drewN ?_ _ | refine blk_drew ?_ | refine blk_alloc ?_ _)); exact BK196.out) hb); have n5_ := Aside0.mk (below_step (by repeat (first | (with_reducible first | exact HB.out | apply below_alloc | apply pw_below_drewN | apply below_drew1 | refine below_set ?_ GE168.out | refine below_set ?_ GE173.out | refine below_set ?_ GE191.out | refine below_set ?_ GE196.out) | exact HB.out)) hb); clear HO_96; clear BK168; clear BK173; clear BK191; clear BK196; clear HB; have HO_96 := n0_; have BK168 := n1_; have BK173 := n2_; have BK191 := n3_; have BK196 := n4_; have HB := n5_; clear n0_ n1_ n2_ n3_ n4_ n5_; (try clear hb); (try clear hb2); (try clear hk); (try clear hi)) | (go_at_call 16; (with_reducible refine (topic_Match.calls (rdOf ByteArray.empty y183 x98_2) a2 t199 _ A58.out).mono ?_); rintro e w75 ⟨rfl, hb⟩; have n0_ := Aside0.mk (Kd.R_below (by (with_reducible repeat (first | apply Kd.R_alloc | apply Kd.R_drewN | apply Kd.R_drew)); exact HO_96.out) hb); have n1_ := Aside0.mk (blk_below (g := gb168) (o := .cells #[.string a0_0, .string a0_1, .string a0_2] 23 (0, 0)) (by (with_reducible repeat (first | refine blk_drewN ?_ _ | refine blk_drew ?_ | refine blk_alloc ?_ _)); exact BK168.out) hb); have n2_ := Aside0.mk (blk_below (g := gb173) (o := .cells #[.string t170, .string t171, .string t172] 23 (0, 0)) (by (with_reducible repeat (first | refine blk_drewN ?_ _ | refine blk_drew ?_ | refine blk_alloc ?_ _)); exact BK173.out) hb); have n3_ := Aside0.mk (blk_below (g := gb191) (o := .cells #[.string t187, .string t188, .string t189] 23 (0, 0)) (by (with_reducible repeat (first | refine blk_drewN ?_ _ | refine blk_drew ?_ | refine blk_alloc ?_ _)); exact BK191.out) hb); have n4_ := Aside0.mk (blk_below (g := gb196) (o := .cells #[.string t192, .string t193, .string t194] 23 (0, 0)) (by (with_reducible repeat (first | refine blk_drewN ?_ _ | refine blk_drew ?_ | refine blk_alloc ?_ _)); exact BK196.out) hb); have n5_ := Aside0.mk (below_step (by repeat (first | (with_reducible first | exact HB.out | apply below_alloc | apply pw_below_drewN | apply below_drew1 | refine below_set ?_ GE168.out | refine below_set ?_ GE173.out | refine below_set ?_ GE191.out | refine below_set ?_ GE196.out) | exact HB.out)) hb); clear HO_96; clear BK168; clear BK173; clear BK191; clear BK196; clear HB; have HO_96 := n0_; have BK168 := n1_; have BK173 := n2_; have BK191 := n3_; have BK196 := n4_; have HB := n5_; clear n0_ n1_ n2_ n3_ n4_ n5_; (try clear hb); (try clear hb2); (try clear hk); (try clear hi)) | (go_at_call 17; (with_reducible refine (humpyardref07_Match.calls k2 (rdOf ByteArray.empty y183 x98_2) a2 t200 _ A59.out).mono ?_); rintro e w76 ⟨rfl, hb⟩; have n0_ := Aside0.mk (Kd.R_below (by (with_reducible repeat (first | apply Kd.R_alloc | apply Kd.R_drewN | apply Kd.R_drew)); exact HO_96.out) hb); have n1_ := Aside0.mk (blk_below (g := gb168) (o := .cells #[.string a0_0, .string a0_1, .string a0_2] 23 (0, 0)) (by (with_reducible repeat (first | refine blk_drewN ?_ _ | refine blk_drew ?_ | refine blk_alloc ?_ _)); exact BK168.out) hb); have n2_ := Aside0.mk (blk_below (g := gb173) (o := .cells #[.string t170, .string t171, .string t172] 23 (0, 0)) (by (with_reducible repeat (first | refine blk_drewN ?_ _ | refine blk_drew ?_ | refine blk_alloc ?_ _)); exact BK173.out) hb); have n3_ := Aside0.mk (blk_below (g := gb191) (o := .cells #[.string t187, .string t188, .string t189] 23 (0, 0)) (by (with_reducible repeat (first | refine blk_drewN ?_ _ | refine blk_drew ?_ | refine blk_alloc ?_ _)); exact BK191.out) hb); have n4_ := Aside0.mk (blk_below (g := gb196) (o := .cells #[.string t192, .string t193, .string t194] 23 (0, 0)) (by (with_reducible repeat (first | refine blk_drewN ?_ _ | refine blk_drew ?_ | refine blk_alloc ?_ _)); exact BK196.out) hb); have n5_ := Aside0.mk (below_step (by repeat (first | (with_reducible first | exact HB.out | apply below_alloc | apply pw_below_drewN | apply below_drew1 | refine below_set ?_ GE168.out | refine below_set ?_ GE173.out | refine below_set ?_ GE191.out | refine below_set ?_ GE196.out) | exact HB.out)) hb); clear HO_96; clear BK168; clear BK173; clear BK191; clear BK196; clear HB; have HO_96 := n0_; have BK168 := n1_; have BK173 := n2_; have BK191 := n3_; have BK196 := n4_; have HB := n5_; clear n0_ n1_ n2_ n3_ n4_ n5_; (try clear hb); (try clear hb2); (try clear hk); (try clear hi)))
                                        go_roundg k2
                                        case measure => have := HJ13.out; have := HK2.out; omega
                                        case rel => exact ⟨(wrap64 (x98_2 + 1)), (by first | rfl | (simp; done) | (simp [*]; done)), H', ⟨by have := HJ13.out; have := HK2.out; omega⟩, ⟨by (with_reducible repeat (first | apply Kd.R_alloc | apply Kd.R_drewN | apply Kd.R_drew)); exact HO_96.out⟩, ⟨by (with_reducible repeat (first | refine blk_drewN ?_ _ | refine blk_drew ?_ | refine blk_alloc ?_ _)); exact BK168.out⟩, ⟨by (with_reducible repeat (first | refine blk_drewN ?_ _ | refine blk_drew ?_ | refine blk_alloc ?_ _)); exact BK173.out⟩, ⟨by repeat (first | (with_reducible first | exact HB.out | apply below_alloc | apply pw_below_drewN | apply below_drew1 | refine below_set ?_ GE168.out | refine below_set ?_ GE173.out | refine below_set ?_ GE191.out | refine below_set ?_ GE196.out) | exact HB.out)⟩⟩
                                  · rw [if_neg c54] at H
                                    exact absurd H (by simp)
                              · rw [if_neg c50] at H
                                exact absurd H (by simp)
                            · rw [if_neg c49] at H
                              exact absurd H (by simp)
                          · rw [if_neg c48] at H
                            have c48b0 : decide (x98_2 < (y183.length : Int)) = false := decide_eq_false c48
                            clear c48
                            obtain rfl := Option.some.inj H
                            go_wp2
                            go_ret
                            exact ⟨by first | rfl | (simp [errW_none, errW_some] <;> rfl) | (simp only [← hji35]; first | rfl | (simp [errW_none, errW_some] <;> rfl)) | (simp [*, errW_none, errW_some] <;> rfl), by repeat (first | (with_reducible first | exact HB.out | apply below_alloc | apply pw_below_drewN | apply below_drew1 | refine below_set ?_ GE168.out | refine below_set ?_ GE173.out) | exact HB.out)⟩
                    · rw [if_neg c43] at H
                      exact absurd H (by simp)
                  · rw [if_neg c38] at H
                    exact absurd H (by simp)
                · rw [if_neg c37] at H
                  exact absurd H (by simp)
              · rw [if_neg c36] at H
                exact absurd H (by simp)
            · rw [if_neg c34] at H
              exact absurd H (by simp)
          · rw [if_neg c33] at H
            exact absurd H (by simp)
        · rw [if_neg c32] at H
          exact absurd H (by simp)

end Go.Proofs.YtcioahjfmmhiiaaDoor.PA
