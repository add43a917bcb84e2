-- written by wip/myprint.py: the kit's print, run with externs
import Derived.Test.YtffcdglhobdlhaaDoorPAx0
import Derived.Test.YtffcdglhobdlhaaDoorPAf7
import Derived.Test.YtffcdglhobdlhaaDoorPAf9
import Derived.Test.YtffcdglhobdlhaaDoorEShared
namespace Go.Proofs.YtffcdglhobdlhaaDoor.PA
open Go.RowKit Go.Proofs.YtffcdglhobdlhaaDoorW.PrintWords Go.Proofs.YtffcdglhobdlhaaDoorW.PrintLast Go.Proofs.YtffcdglhobdlhaaDoorW.PrintMore
attribute [local go_sem] max2_int min2_int max_two min_two max_three min_three max_four min_four   -- for this text's walks alone
set_option linter.unusedVariables false
set_option linter.unusedSimpArgs false

/-! ### humpyardlaw21_TraceShares: function 3 -/
mutual
def humpyardlaw21_TraceShares.l0 : Nat → List (List Int) → Bool → Int → Int → Int → Bool → Int → Option (Bool)
  | 0, _, _, _, _, _, _, _ => none
  | k + 1, x0, x3, x4, x5, x6, x7, x9 => if x9 < (x0.length : Int) then (humpyardlaw21_TraceShares.l1 k x0 x3 x4 x5 x6 x7 x9 (wrap64 (x9 + 1))) else (if x7 = true then (if x3 = true then (if x4 < x5 then (if x5 < (x0.length : Int) then (if 0 ≤ x4 then (if x4 < (x0.length : Int) then ((humpyardlaw21_TraceShares_1.f k (rd_L1 x0 x4) x6).bind fun t219 => (if t219 = true then (if 0 ≤ x5 then ((humpyardlaw21_TraceShares_1.f k (rd_L1 x0 x5) x6).bind fun t221 => (some t221)) else (none)) else (some false))) else (none)) else (none)) else (some false)) else (some false)) else (some false)) else (if x3 = true then (if x4 = 0 then (if x5 = 0 then (some (x6 == 0)) else (some false)) else (some false)) else (some false)))
def humpyardlaw21_TraceShares.l1 : Nat → List (List Int) → Bool → Int → Int → Int → Bool → Int → Int → Option (Bool)
  | 0, _, _, _, _, _, _, _, _ => none
  | k + 1, x0, x3, x4, x5, x6, x7, x9, x10 => if x10 < (x0.length : Int) then (humpyardlaw21_TraceShares.l2 k x0 x3 x4 x5 x6 x7 x9 x10 0) else (humpyardlaw21_TraceShares.l0 k x0 x3 x4 x5 x6 x7 (wrap64 (x9 + 1)))
def humpyardlaw21_TraceShares.l2 : Nat → List (List Int) → Bool → Int → Int → Int → Bool → Int → Int → Int → Option (Bool)
  | 0, _, _, _, _, _, _, _, _, _ => none
  | k + 1, x0, x3, x4, x5, x6, x7, x9, x10, x11 => if 0 ≤ x9 then (if x9 < (x0.length : Int) then (if x11 < ((rd_L1 x0 x9).length : Int) then (if 0 ≤ x10 then (if x10 < (x0.length : Int) then (if 0 ≤ x11 then ((humpyardlaw21_TraceShares_1.f k (rd_L1 x0 x10) (rd (rd_L1 x0 x9) x11)).bind fun t215 => (if t215 = true then (if x7 = true then (if x9 < x4 then (some false) else (if x9 = x4 then (if x10 < x5 then (some false) else (if x10 = x5 then (if (rd (rd_L1 x0 x9) x11) < x6 then (some false) else (humpyardlaw21_TraceShares.l2 k x0 x3 x4 x5 x6 x7 x9 x10 (wrap64 (x11 + 1)))) else (humpyardlaw21_TraceShares.l2 k x0 x3 x4 x5 x6 x7 x9 x10 (wrap64 (x11 + 1))))) else (humpyardlaw21_TraceShares.l2 k x0 x3 x4 x5 x6 x7 x9 x10 (wrap64 (x11 + 1))))) else (some false)) else (humpyardlaw21_TraceShares.l2 k x0 x3 x4 x5 x6 x7 x9 x10 (wrap64 (x11 + 1))))) else (none)) else (none)) else (none)) else (humpyardlaw21_TraceShares.l1 k x0 x3 x4 x5 x6 x7 x9 (wrap64 (x10 + 1)))) else (none)) else (none)
end
def humpyardlaw21_TraceShares.f (k : Nat) (l0 : List (List Int)) : Option (Bool) := (humpyardlaw21_awake.f k).bind fun t202 => (if 0 ≤ (mn (l0.length : Int) 8) then (if (mn (l0.length : Int) 8) ≤ (l0.length : Int) then ((some (l0.take ((mn (l0.length : Int) 8) : Int).toNat : List (List Int))).bind fun y203 => ((trace_Shared.f y203).bind fun bt207 => (humpyardlaw21_TraceShares.l0 k y203 t202 bt207.1 bt207.2.1 bt207.2.2.1 bt207.2.2.2 0))) else (none)) else (none))
theorem humpyardlaw21_TraceShares.mono_l : ∀ k, (∀ y0 y1 y2 y3 y4 y5 y6, LeO (humpyardlaw21_TraceShares.l0 k y0 y1 y2 y3 y4 y5 y6) (humpyardlaw21_TraceShares.l0 (k + 1) y0 y1 y2 y3 y4 y5 y6)) ∧ (∀ y0 y1 y2 y3 y4 y5 y6 y7, LeO (humpyardlaw21_TraceShares.l1 k y0 y1 y2 y3 y4 y5 y6 y7) (humpyardlaw21_TraceShares.l1 (k + 1) y0 y1 y2 y3 y4 y5 y6 y7)) ∧ (∀ y0 y1 y2 y3 y4 y5 y6 y7 y8, LeO (humpyardlaw21_TraceShares.l2 k y0 y1 y2 y3 y4 y5 y6 y7 y8) (humpyardlaw21_TraceShares.l2 (k + 1) y0 y1 y2 y3 y4 y5 y6 y7 y8))
  | 0 => ⟨fun _ _ _ _ _ _ _ r h => by simp [humpyardlaw21_TraceShares.l0] at h, fun _ _ _ _ _ _ _ _ r h => by simp [humpyardlaw21_TraceShares.l1] at h, fun _ _ _ _ _ _ _ _ _ r h => by simp [humpyardlaw21_TraceShares.l2] at h⟩
  | k + 1 => by
    obtain ⟨ih0, ih1, ih2⟩ := humpyardlaw21_TraceShares.mono_l k
    refine ⟨?_, ?_, ?_⟩
    · intro y0 y1 y2 y3 y4 y5 y6
      unfold humpyardlaw21_TraceShares.l0
      repeat' first
      | (with_reducible exact ih0 _ _ _ _ _ _ _)
      | (with_reducible exact ih1 _ _ _ _ _ _ _ _)
      | (with_reducible exact ih2 _ _ _ _ _ _ _ _ _)
      | (with_reducible exact humpyardlaw21_TraceShares_1.mono _ _ _)
      | (with_reducible exact humpyardlaw21_awake.mono _)
      | (with_reducible exact LeO.refl _)
      | (with_reducible exact LeO.none _)
      | (with_reducible refine LeO.ite ?_ ?_)
      | (with_reducible refine LeO.bind ?_ (fun _ => ?_))
      | exact ih0 _ _ _ _ _ _ _
      | exact ih1 _ _ _ _ _ _ _ _
      | exact ih2 _ _ _ _ _ _ _ _ _
      | exact humpyardlaw21_TraceShares_1.mono _ _ _
      | exact humpyardlaw21_awake.mono _
      | exact LeO.none _
      | refine LeO.ite ?_ ?_
      | refine LeO.bind ?_ (fun _ => ?_)
    · intro y0 y1 y2 y3 y4 y5 y6 y7
      unfold humpyardlaw21_TraceShares.l1
      repeat' first
      | (with_reducible exact ih0 _ _ _ _ _ _ _)
      | (with_reducible exact ih1 _ _ _ _ _ _ _ _)
      | (with_reducible exact ih2 _ _ _ _ _ _ _ _ _)
      | (with_reducible exact humpyardlaw21_TraceShares_1.mono _ _ _)
      | (with_reducible exact humpyardlaw21_awake.mono _)
      | (with_reducible exact LeO.refl _)
      | (with_reducible exact LeO.none _)
      | (with_reducible refine LeO.ite ?_ ?_)
      | (with_reducible refine LeO.bind ?_ (fun _ => ?_))
      | exact ih0 _ _ _ _ _ _ _
      | exact ih1 _ _ _ _ _ _ _ _
      | exact ih2 _ _ _ _ _ _ _ _ _
      | exact humpyardlaw21_TraceShares_1.mono _ _ _
      | exact humpyardlaw21_awake.mono _
      | exact LeO.none _
      | refine LeO.ite ?_ ?_
      | refine LeO.bind ?_ (fun _ => ?_)
    · intro y0 y1 y2 y3 y4 y5 y6 y7 y8
      unfold humpyardlaw21_TraceShares.l2
      repeat' first
      | (with_reducible exact ih0 _ _ _ _ _ _ _)
      | (with_reducible exact ih1 _ _ _ _ _ _ _ _)
      | (with_reducible exact ih2 _ _ _ _ _ _ _ _ _)
      | (with_reducible exact humpyardlaw21_TraceShares_1.mono _ _ _)
      | (with_reducible exact humpyardlaw21_awake.mono _)
      | (with_reducible exact LeO.refl _)
      | (with_reducible exact LeO.none _)
      | (with_reducible refine LeO.ite ?_ ?_)
      | (with_reducible refine LeO.bind ?_ (fun _ => ?_))
      | exact ih0 _ _ _ _ _ _ _
      | exact ih1 _ _ _ _ _ _ _ _
      | exact ih2 _ _ _ _ _ _ _ _ _
      | exact humpyardlaw21_TraceShares_1.mono _ _ _
      | exact humpyardlaw21_awake.mono _
      | exact LeO.none _
      | refine LeO.ite ?_ ?_
      | refine LeO.bind ?_ (fun _ => ?_)
theorem humpyardlaw21_TraceShares.mono : ∀ a0 k, LeO (humpyardlaw21_TraceShares.f k a0) (humpyardlaw21_TraceShares.f (k + 1) a0) := by
  intro a0 k
  obtain ⟨ih0, ih1, ih2⟩ := humpyardlaw21_TraceShares.mono_l k
  unfold humpyardlaw21_TraceShares.f
  repeat' first
      | (with_reducible exact ih0 _ _ _ _ _ _ _)
      | (with_reducible exact ih1 _ _ _ _ _ _ _ _)
      | (with_reducible exact ih2 _ _ _ _ _ _ _ _ _)
      | (with_reducible exact humpyardlaw21_TraceShares_1.mono _ _ _)
      | (with_reducible exact humpyardlaw21_awake.mono _)
      | (with_reducible exact LeO.refl _)
      | (with_reducible exact LeO.none _)
      | (with_reducible refine LeO.ite ?_ ?_)
      | (with_reducible refine LeO.bind ?_ (fun _ => ?_))
      | exact ih0 _ _ _ _ _ _ _
      | exact ih1 _ _ _ _ _ _ _ _
      | exact ih2 _ _ _ _ _ _ _ _ _
      | exact humpyardlaw21_TraceShares_1.mono _ _ _
      | exact humpyardlaw21_awake.mono _
      | exact LeO.none _
      | refine LeO.ite ?_ ?_
      | refine LeO.bind ?_ (fun _ => ?_)
def humpyardlaw21_TraceShares.T14 : Bool × List (List Nat × List Nat) := (true, [([], []), ([], []), ([], []), ([1, 2], [1, 2]), ([3], [3]), ([], []), ([], []), ([5, 6], [5, 6]), ([7], [7]), ([], []), ([8, 9], [8, 9]), ([10], [10]), ([0, 4, 11], [0, 4, 11]), ([12], [12])])
def humpyardlaw21_TraceShares.B14 : List Nat := [0, 0, 0, 6, 14, 0, 0, 96, 224, 0, 992, 2016, 4095, 8191]
theorem humpyardlaw21_TraceShares.tab14 : rtab .any (opsOf Tryd.f3 14) = humpyardlaw21_TraceShares.T14 := by kernel_rfl
theorem humpyardlaw21_TraceShares.bits14 : waitsOk humpyardlaw21_TraceShares.T14.2 humpyardlaw21_TraceShares.B14 = true := by kernel_rfl
set_option maxHeartbeats 8000000 in
set_option maxRecDepth 100000 in
theorem humpyardlaw21_TraceShares.calls (k : Nat) (A0 : Option Addr) (c0 : Nat) (l0 : List (List Int)) (r : Bool) (w : World) (hr0 : Kd.C (Kd.slice 3 (Kd.int .i64)) w A0 l0.length l0) (hc0 : l0.length ≤ c0) (h : humpyardlaw21_TraceShares.f k l0 = some r) :
    Calls Tryd.prog 3 #[.slice A0 l0.length c0] w fun e w' => e = .returned (.bool r) ∧ Below w.heap.size w w' := by
  have HR0 := Aside0.mk hr0
  have HC0 := Aside0.mk hc0
  clear hr0 hc0
  have HB := Aside0.mk (Below.refl w.heap.size w)
  have H : ((humpyardlaw21_awake.f k).bind fun t202 => (if 0 ≤ (mn (l0.length : Int) 8) then (if (mn (l0.length : Int) 8) ≤ (l0.length : Int) then ((some (l0.take ((mn (l0.length : Int) 8) : Int).toNat : List (List Int))).bind fun y203 => ((trace_Shared.f y203).bind fun bt207 => (humpyardlaw21_TraceShares.l0 k y203 t202 bt207.1 bt207.2.1 bt207.2.2.1 bt207.2.2.2 0))) else (none)) else (none))) = some r := h
  clear h
  replace H := Option.bind_eq_some_iff.mp H
  obtain ⟨t202, A20, H⟩ := H
  replace H : (if 0 ≤ (mn (l0.length : Int) 8) then (if (mn (l0.length : Int) 8) ≤ (l0.length : Int) then ((some (l0.take ((mn (l0.length : Int) 8) : Int).toNat : List (List Int))).bind fun y203 => ((trace_Shared.f y203).bind fun bt207 => (humpyardlaw21_TraceShares.l0 k y203 t202 bt207.1 bt207.2.1 bt207.2.2.1 bt207.2.2.2 0))) else (none)) else (none)) = some r := H
  have A2 := Aside0.mk A20
  clear A20
  obtain ⟨ji3, hji3⟩ : ∃ j_ : Int, (mn (l0.length : Int) 8) = j_ := ⟨_, rfl⟩
  replace H : (if 0 ≤ (ji3) then (if (ji3) ≤ (l0.length : Int) then ((some (l0.take ((ji3) : Int).toNat : List (List Int))).bind fun y203 => ((trace_Shared.f y203).bind fun bt207 => (humpyardlaw21_TraceShares.l0 k y203 t202 bt207.1 bt207.2.1 bt207.2.2.1 bt207.2.2.2 0))) else (none)) else (none)) = some r := by first | (rw [hji3] at H; exact H) | (simp only [hji3] at H ⊢; exact H)
  (try rw [hji3] at A2)
  (try (have hji3h : ji3 ≤ 8 := by (rw [← hji3]; unfold mn; (repeat' split) <;> omega)))
  (try (have hji3g : ji3 ≤ 64 := by omega))
  (try (have hji3l : 0 ≤ ji3 := by (rw [← hji3]; unfold mn; (repeat' split) <;> omega)))
  (try (have hji3m : 0 ≤ ji3 := by omega))
  have hji3_ : (if 8 < (l0.length : Int) then 8 else (l0.length : Int)) = ji3 := hji3
  by_cases c4 : 0 ≤ (ji3)
  · rw [if_pos c4] at H
    have c4b0 := eq_true c4
    have c4b1 : decide (0 ≤ (ji3)) = true := decide_eq_true c4
    clear c4
    by_cases c5 : (ji3) ≤ (l0.length : Int)
    · rw [if_pos c5] at H
      have c5b0 := eq_true c5
      have c5b1 : decide ((ji3) ≤ (l0.length : Int)) = true := decide_eq_true c5
      clear c5
      obtain ⟨y203, hy203⟩ : ∃ y_ : List (List Int), y_ = (l0.take ((ji3) : Int).toNat) := ⟨_, rfl⟩
      replace H : ((trace_Shared.f y203).bind fun bt207 => (humpyardlaw21_TraceShares.l0 k y203 t202 bt207.1 bt207.2.1 bt207.2.2.1 bt207.2.2.2 0)) = some r := by first | (rw [hy203]; with_reducible exact H) | (have H2_ := (Option.bind_some _ _).symm.trans H; rw [hy203]; with_reducible exact H2_) | (have H2_ := (Option.bind_some _ _).symm.trans H; with_reducible exact H2_) | with_reducible exact H | (rw [hy203]; exact H) | exact H
      have Ny203 := Aside0.mk hy203
      clear hy203
      replace H := Option.bind_eq_some_iff.mp H
      obtain ⟨⟨t207, t208, t209, t210⟩, A60, H⟩ := H
      replace H : (humpyardlaw21_TraceShares.l0 k y203 t202 t207 t208 t209 t210 0) = some r := H
      have A6 := Aside0.mk A60
      clear A60
      have H' := Aside0.mk H
      clear H
      go_enter Tryd.func3, Tryd.ntmps3
      go_wp2_with (first | ((with_reducible refine gate_callee (f := 7) rfl ?_); refine goesL_ (some 12) rfl rfl Tryd.func7 (by kernel_rfl) rfl #[] rfl (by (try simp only [List.map_toArray, List.map_cons, List.map_nil]); first | done | rfl | (simp only [List.length_drop, List.length_take]; rfl)) ?_; (with_reducible refine (humpyardlaw21_awake.calls k  t202 _ A2.out).mono ?_); rintro e w7 ⟨rfl, hb⟩; refine ⟨_, rfl, ?_⟩; have n0_ := Aside0.mk (below_step (by repeat (first | (with_reducible first | exact HB.out | apply below_alloc | apply pw_below_drewN | apply below_drew1) | exact HB.out)) hb); clear HB; have HB := n0_; clear n0_; (try clear hb); (try clear hb2); (try clear hk); (try clear hi); have q8 : ((ji3) : Int) ≤ ((l0.length : Int) : Int) := of_decide_eq_true (by first | (with_reducible assumption) | assumption); obtain ⟨i08, hi08, _, hsz8, _⟩ := info_parts info26; have hroom8 : l0.length ≤ c0 := HC0.out; have hC8 : Kd.C (Kd.slice 3 (Kd.int .i64)) _ A0 l0.length l0 := HR0.out; have hcut8 := cut_to (P := Tryd.prog) 22 26 .i64 Tryd.underlying22 hi08 A0 l0.length c0 (ji3) (of_decide_eq_true (by first | (with_reducible assumption) | assumption)) q8 hroom8; have hr8 := Kd.C_take (m := ((ji3) : Int).toNat) hC8 (by omega); have hy8 : y203.length = ((ji3) : Int).toNat := (by rw [Ny203.out, List.length_take]; omega); rw [← Ny203.out] at hr8; rw [← hy8] at hcut8; have HR206 := Aside0.mk hr8; have HC206 := Aside0.mk (show y203.length ≤ c0 from by omega); clear hr8 hC8 hroom8 hi08 hsz8; have KY8 := Aside0.mk hy8; clear hy8; replace q8 := eq_true q8) | ((with_reducible refine gate_callee (f := 8) rfl ?_); refine goesL_ (some 20) rfl rfl Tryd.func8 (by kernel_rfl) rfl #[.slice A0 y203.length c0] rfl (by (try simp only [List.map_toArray, List.map_cons, List.map_nil]); first | done | rfl | (simp only [List.length_drop, List.length_take]; rfl)) ?_; (with_reducible refine (trace_Shared.calls _ _ y203 t207 t208 t209 t210 _ ?side1 ?side2 A6.out).mono ?_); (case side1 => repeat (first | exact (Kd.C_below HR206.out HB.out) | (with_reducible refine Kd.C_alloc ?_ _) | (with_reducible refine Kd.C_drewN ?_ _) | (with_reducible refine Kd.C_drew ?_))); (case side2 => exact HC206.out); rintro e w9 ⟨rfl, hb⟩; refine ⟨_, rfl, ?_⟩; have n0_ := Aside0.mk (below_step (by repeat (first | (with_reducible first | exact HB.out | apply below_alloc | apply pw_below_drewN | apply below_drew1) | exact HB.out)) hb); clear HB; have HB := n0_; clear n0_; (try clear hb); (try clear hb2); (try clear hk); (try clear hi)))
      go_loopg [9] k (fun kq v9 w' => ∃ (x9_1 : Int), v9 = .int .i64 x9_1 ∧ Aside0 (humpyardlaw21_TraceShares.l0 kq y203 t202 t207 t208 t209 t210 x9_1 = some r) ∧ Aside0 (kq ≤ k) ∧ Aside0 (Below w.heap.size w w'))
      case atStart => exact ⟨(0), (by first | rfl | (simp; done) | (simp [*]; done)), H', ⟨Nat.le_refl _⟩, ⟨by repeat (first | (with_reducible first | exact HB.out | apply below_alloc | apply pw_below_drewN | apply below_drew1) | exact HB.out)⟩⟩
      case round =>
        clear H'
        try clear p2
        try clear c3
        try clear c4
        try clear c4b0
        try clear c4b1
        try clear c5
        try clear c5b0
        try clear c5b1
        try clear c7
        try clear c8
        try clear q8
        try clear q8
        obtain ⟨x9_1, rfl, HA, HK1, HB⟩ := hrel
        cases gk with
        | zero => exact absurd HA.out (by simp [humpyardlaw21_TraceShares.l0])
        | succ k1 =>
          have H := HA.out
          clear HA
          simp only [humpyardlaw21_TraceShares.l0] at H
          by_cases c10 : x9_1 < (y203.length : Int)
          · rw [if_pos c10] at H
            have c10b0 : decide (x9_1 < (y203.length : Int)) = true := decide_eq_true c10
            clear c10
            have H' := Aside0.mk H
            clear H
            go_wp2
            go_loopg [10] k1 (fun kq v10 w' => ∃ (x10_2 : Int), v10 = .int .i64 x10_2 ∧ Aside0 (humpyardlaw21_TraceShares.l1 kq y203 t202 t207 t208 t209 t210 x9_1 x10_2 = some r) ∧ Aside0 (kq ≤ k1) ∧ Aside0 (Below w.heap.size w w'))
            case atStart => exact ⟨(wrap64 (x9_1 + 1)), (by first | rfl | (simp; done) | (simp [*]; done)), H', ⟨Nat.le_refl _⟩, ⟨by repeat (first | (with_reducible first | exact HB.out | apply below_alloc | apply pw_below_drewN | apply below_drew1) | exact HB.out)⟩⟩
            case round =>
              clear H'
              try clear c1
              try clear p2
              try clear c3
              try clear c4
              try clear c4b0
              try clear c4b1
              try clear c5
              try clear c5b0
              try clear c5b1
              try clear p6
              try clear c7
              try clear c8
              try clear q8
              try clear c10
              try clear c10b0
              try clear p2
              try clear q8
              obtain ⟨x10_2, rfl, HA, HK2, HB⟩ := hrel
              cases gk with
              | zero => exact absurd HA.out (by simp [humpyardlaw21_TraceShares.l1])
              | succ k2 =>
                have H := HA.out
                clear HA
                simp only [humpyardlaw21_TraceShares.l1] at H
                by_cases c11 : x10_2 < (y203.length : Int)
                · rw [if_pos c11] at H
                  have c11b0 : decide (x10_2 < (y203.length : Int)) = true := decide_eq_true c11
                  clear c11
                  have H' := Aside0.mk H
                  clear H
                  go_wp2
                  go_loopg [11] k2 (fun kq v11 w' => ∃ (x11_3 : Int), v11 = .int .i64 x11_3 ∧ Aside0 (humpyardlaw21_TraceShares.l2 kq y203 t202 t207 t208 t209 t210 x9_1 x10_2 x11_3 = some r) ∧ Aside0 (kq ≤ k2) ∧ Aside0 (Below w.heap.size w w'))
                  case atStart => exact ⟨(0), (by first | rfl | (simp; done) | (simp [*]; done)), H', ⟨Nat.le_refl _⟩, ⟨by repeat (first | (with_reducible first | exact HB.out | apply below_alloc | apply pw_below_drewN | apply below_drew1) | exact HB.out)⟩⟩
                  case round =>
                    clear H'
                    try clear c1
                    try clear p2
                    try clear c3
                    try clear c4
                    try clear c4b0
                    try clear c4b1
                    try clear c5
                    try clear c5b0
                    try clear c5b1
                    try clear p6
                    try clear c7
                    try clear c8
                    try clear q8
                    try clear c10
                    try clear c10b0
                    try clear c11
                    try clear c11b0
                    try clear p2
                    try clear p6
                    try clear q8
                    obtain ⟨x11_3, rfl, HA, HK3, HB⟩ := hrel
                    cases gk with
                    | zero => exact absurd HA.out (by simp [humpyardlaw21_TraceShares.l2])
                    | succ k3 =>
                      have H := HA.out
                      clear HA
                      simp only [humpyardlaw21_TraceShares.l2] at H
                      by_cases c12 : 0 ≤ x9_1
                      · rw [if_pos c12] at H
                        have c12b0 : decide (0 ≤ x9_1) = true := decide_eq_true c12
                        clear c12
                        by_cases c13 : x9_1 < (y203.length : Int)
                        · rw [if_pos c13] at H
                          have c13b0 : decide (x9_1 < (y203.length : Int)) = true := decide_eq_true c13
                          clear c13
                          by_cases c14 : x11_3 < ((rd_L1 y203 x9_1).length : Int)
                          · rw [if_pos c14] at H
                            have c14b0 : decide (x11_3 < ((rd_L1 y203 x9_1).length : Int)) = true := decide_eq_true c14
                            clear c14
                            by_cases c15 : 0 ≤ x10_2
                            · rw [if_pos c15] at H
                              have c15b0 : decide (0 ≤ x10_2) = true := decide_eq_true c15
                              clear c15
                              by_cases c16 : x10_2 < (y203.length : Int)
                              · rw [if_pos c16] at H
                                have c16b0 : decide (x10_2 < (y203.length : Int)) = true := decide_eq_true c16
                                clear c16
                                by_cases c17 : 0 ≤ x11_3
                                · rw [if_pos c17] at H
                                  have c17b0 : decide (0 ≤ x11_3) = true := decide_eq_true c17
                                  clear c17
                                  replace H := Option.bind_eq_some_iff.mp H
                                  obtain ⟨t215, A180, H⟩ := H
                                  replace H : (if t215 = true then (if t210 = true then (if x9_1 < t207 then (some false) else (if x9_1 = t207 then (if x10_2 < t208 then (some false) else (if x10_2 = t208 then (if (rd (rd_L1 y203 x9_1) x11_3) < t209 then (some false) else (humpyardlaw21_TraceShares.l2 k3 y203 t202 t207 t208 t209 t210 x9_1 x10_2 (wrap64 (x11_3 + 1)))) else (humpyardlaw21_TraceShares.l2 k3 y203 t202 t207 t208 t209 t210 x9_1 x10_2 (wrap64 (x11_3 + 1))))) else (humpyardlaw21_TraceShares.l2 k3 y203 t202 t207 t208 t209 t210 x9_1 x10_2 (wrap64 (x11_3 + 1))))) else (some false)) else (humpyardlaw21_TraceShares.l2 k3 y203 t202 t207 t208 t209 t210 x9_1 x10_2 (wrap64 (x11_3 + 1)))) = some r := H
                                  have A18 := Aside0.mk A180
                                  clear A180
                                  by_cases c19 : t215 = true
                                  · subst c19
                                    have H1 : (if t210 = true then (if x9_1 < t207 then (some false) else (if x9_1 = t207 then (if x10_2 < t208 then (some false) else (if x10_2 = t208 then (if (rd (rd_L1 y203 x9_1) x11_3) < t209 then (some false) else (humpyardlaw21_TraceShares.l2 k3 y203 t202 t207 t208 t209 t210 x9_1 x10_2 (wrap64 (x11_3 + 1)))) else (humpyardlaw21_TraceShares.l2 k3 y203 t202 t207 t208 t209 t210 x9_1 x10_2 (wrap64 (x11_3 + 1))))) else (humpyardlaw21_TraceShares.l2 k3 y203 t202 t207 t208 t209 t210 x9_1 x10_2 (wrap64 (x11_3 + 1))))) else (some false)) = some r := by rw [if_pos rfl] at H; exact H
                                    clear H
                                    have H := H1
                                    clear H1
                                    by_cases c20 : t210 = true
                                    · subst c20
                                      have H1 : (if x9_1 < t207 then (some false) else (if x9_1 = t207 then (if x10_2 < t208 then (some false) else (if x10_2 = t208 then (if (rd (rd_L1 y203 x9_1) x11_3) < t209 then (some false) else (humpyardlaw21_TraceShares.l2 k3 y203 t202 t207 t208 t209 true x9_1 x10_2 (wrap64 (x11_3 + 1)))) else (humpyardlaw21_TraceShares.l2 k3 y203 t202 t207 t208 t209 true x9_1 x10_2 (wrap64 (x11_3 + 1))))) else (humpyardlaw21_TraceShares.l2 k3 y203 t202 t207 t208 t209 true x9_1 x10_2 (wrap64 (x11_3 + 1))))) = some r := by rw [if_pos rfl] at H; exact H
                                      clear H
                                      have H := H1
                                      clear H1
                                      by_cases c21 : x9_1 < t207
                                      · rw [if_pos c21] at H
                                        have c21b0 : decide (x9_1 < t207) = true := decide_eq_true c21
                                        clear c21
                                        obtain rfl := Option.some.inj H
                                        have p211 : 0 ≤ (x9_1 : Int) := of_decide_eq_true (by first | (with_reducible assumption) | assumption)
                                        have q211 : x9_1 < (y203.length : Int) := of_decide_eq_true (by first | (with_reducible assumption) | assumption)
                                        obtain ⟨ad211, A211_0, c211_0, e211, hx211_0, hl211_0, hi211_0⟩ := at_L1 HR206.out x9_1 p211 q211
                                        cases e211
                                        replace hx211_0 := (HB.out.cell (World.block_lt_of_cell? w _ hx211_0)).trans hx211_0
                                        have HR211_0 := Aside0.mk hi211_0
                                        have HC211_0 := Aside0.mk hl211_0
                                        clear hi211_0 hl211_0
                                        replace p211 := eq_true p211
                                        replace q211 := eq_true q211
                                        try go_wp2
                                        have n0_ := Aside0.mk (below_drew1 HB.out)
                                        clear HB
                                        have HB := n0_
                                        clear n0_
                                        have p212 : 0 ≤ (x10_2 : Int) := of_decide_eq_true (by first | (with_reducible assumption) | assumption)
                                        have q212 : x10_2 < (y203.length : Int) := of_decide_eq_true (by first | (with_reducible assumption) | assumption)
                                        obtain ⟨ad212, A212_0, c212_0, e212, hx212_0, hl212_0, hi212_0⟩ := at_L1 HR206.out x10_2 p212 q212
                                        have hw212_0 := hx212_0
                                        obtain rfl : ad211 = ad212 := (by injection e212)
                                        replace hx212_0 := (HB.out.cell (World.block_lt_of_cell? w _ hx212_0)).trans hx212_0
                                        have HR212_0 := Aside0.mk hi212_0
                                        have HC212_0 := Aside0.mk hl212_0
                                        clear hi212_0 hl212_0
                                        replace p212 := eq_true p212
                                        replace q212 := eq_true q212
                                        have p213 : 0 ≤ (x9_1 : Int) := of_decide_eq_true (by first | (with_reducible assumption) | assumption)
                                        have q213 : x9_1 < (y203.length : Int) := of_decide_eq_true (by first | (with_reducible assumption) | assumption)
                                        obtain ⟨ad213, A213_0, c213_0, e213, hx213_0, hl213_0, hi213_0⟩ := at_L1 HR206.out x9_1 p213 q213
                                        have hw213_0 := hx213_0
                                        obtain rfl : ad211 = ad213 := (by injection e213)
                                        replace hx213_0 := (HB.out.cell (World.block_lt_of_cell? w _ hx213_0)).trans hx213_0
                                        have HR213_0 := Aside0.mk hi213_0
                                        have HC213_0 := Aside0.mk hl213_0
                                        clear hi213_0 hl213_0
                                        replace p213 := eq_true p213
                                        replace q213 := eq_true q213
                                        have p214 : 0 ≤ (x11_3 : Int) := of_decide_eq_true (by first | (with_reducible assumption) | assumption)
                                        have q214 : x11_3 < ((rd_L1 y203 x9_1).length : Int) := of_decide_eq_true (by first | (with_reducible assumption) | assumption)
                                        obtain ⟨ad214, e214, hx214_0⟩ := Kd.at_int HR213_0.out x11_3 p214 q214
                                        have hw214_0 := hx214_0
                                        cases e214
                                        replace hx214_0 := (HB.out.cell (World.block_lt_of_cell? w _ hx214_0)).trans hx214_0
                                        replace p214 := eq_true p214
                                        replace q214 := eq_true q214
                                        refine start_ (n := 14) (S := fun w' => w'.cell? (ad211.add (x10_2).toNat) = some (.slice A212_0 (rd_L1 y203 x10_2).length c212_0) ∧ w'.cell? (ad211.add (x9_1).toNat) = some (.slice (some ad214) (rd_L1 y203 x9_1).length c213_0) ∧ w'.cell? (ad214.add (x11_3).toNat) = some (.int .i64 (rd (rd_L1 y203 x9_1) x11_3))) (ds := []) #[false, false, false, false, false, false, false, false, false, false, false, false, false, false] (by kernel_rfl) rfl rfl ⟨((HB.out.cell (World.block_lt_of_cell? w _ hw212_0)).trans hw212_0), ((HB.out.cell (World.block_lt_of_cell? w _ hw213_0)).trans hw213_0), ((HB.out.cell (World.block_lt_of_cell? w _ hw214_0)).trans hw214_0)⟩ (fun hHeld => ?_); refine with_tabW humpyardlaw21_TraceShares.tab14 humpyardlaw21_TraceShares.bits14 (fun HT_ HW_ => ?_)
                                        generalize wr.drew = w22 at HB HR212_0 HR213_0 hx212_0 hx213_0 hx214_0 hHeld ⊢
                                        refine pure_ (i := 0) (N := some 48) (v := ?_) (a' := ?_) #[true, false, false, false, false, false, false, false, false, false, false, false, false, false] rfl rfl (any_of HT_.out (by kernel_rfl)) (fun _ _ _ h => h) (Or.inl ⟨by rfl, ?_⟩) ?_ ?_
                                        rotate_left
                                        · intro w'
                                          go_simp
                                          with_reducible rfl
                                        rotate_left
                                        · simp only [Act.put, List.setIfInBounds_toArray, List.set_cons_zero, List.set_cons_succ, i64_w, i32_w]
                                          rfl
                                        refine pure_ (i := 1) (N := some 49) (v := ?_) (a' := ?_) #[true, true, false, false, false, false, false, false, false, false, false, false, false, false] rfl rfl (any_of HT_.out (by kernel_rfl)) (fun _ _ _ h => h) (Or.inl ⟨by rfl, ?_⟩) ?_ ?_
                                        rotate_left
                                        · intro w'
                                          go_simp
                                          with_reducible rfl
                                        rotate_left
                                        · simp only [Act.put, List.setIfInBounds_toArray, List.set_cons_zero, List.set_cons_succ, i64_w, i32_w]
                                          rfl
                                        refine pure_ (i := 2) (N := some 50) (v := ?_) (a' := ?_) #[true, true, true, false, false, false, false, false, false, false, false, false, false, false] rfl rfl (any_of HT_.out (by kernel_rfl)) (fun _ _ _ h => h) (Or.inl ⟨by rfl, ?_⟩) ?_ ?_
                                        rotate_left
                                        · intro w'
                                          go_simp
                                          with_reducible rfl
                                        rotate_left
                                        · simp only [Act.put, List.setIfInBounds_toArray, List.set_cons_zero, List.set_cons_succ, i64_w, i32_w]
                                          rfl
                                        refine pure_ (i := 3) (N := some 51) (v := ?_) (a' := ?_) #[true, true, true, true, false, false, false, false, false, false, false, false, false, false] rfl rfl (any_of HT_.out (by kernel_rfl)) (fun _ _ _ h => h) (Or.inl ⟨by rfl, ?_⟩) ?_ ?_
                                        rotate_left
                                        · intro w'
                                          go_simp
                                          with_reducible rfl
                                        rotate_left
                                        · simp only [Act.put, List.setIfInBounds_toArray, List.set_cons_zero, List.set_cons_succ, i64_w, i32_w]
                                          rfl
                                        refine pure_ (i := 5) (N := some 53) (v := ?_) (a' := ?_) #[true, true, true, true, false, true, false, false, false, false, false, false, false, false] rfl rfl (any_of HT_.out (by kernel_rfl)) (fun _ _ _ h => h) (Or.inl ⟨by rfl, ?_⟩) ?_ ?_
                                        rotate_left
                                        · intro w'
                                          go_simp
                                          with_reducible rfl
                                        rotate_left
                                        · simp only [Act.put, List.setIfInBounds_toArray, List.set_cons_zero, List.set_cons_succ, i64_w, i32_w]
                                          rfl
                                        refine pure_ (i := 6) (N := some 54) (v := ?_) (a' := ?_) #[true, true, true, true, false, true, true, false, false, false, false, false, false, false] rfl rfl (any_of HT_.out (by kernel_rfl)) (fun _ _ _ h => h) (Or.inl ⟨by rfl, ?_⟩) ?_ ?_
                                        rotate_left
                                        · intro w'
                                          go_simp
                                          with_reducible rfl
                                        rotate_left
                                        · simp only [Act.put, List.setIfInBounds_toArray, List.set_cons_zero, List.set_cons_succ, i64_w, i32_w]
                                          rfl
                                        refine pure_ (i := 7) (N := some 55) (v := ?_) (a' := ?_) #[true, true, true, true, false, true, true, true, false, false, false, false, false, false] rfl rfl (any_of HT_.out (by kernel_rfl)) (fun _ _ _ h => h) (Or.inl ⟨by rfl, ?_⟩) ?_ ?_
                                        rotate_left
                                        · intro w'
                                          go_simp
                                          with_reducible rfl
                                        rotate_left
                                        · simp only [Act.put, List.setIfInBounds_toArray, List.set_cons_zero, List.set_cons_succ, i64_w, i32_w]
                                          rfl
                                        refine pure_ (i := 9) (N := some 57) (v := ?_) (a' := ?_) #[true, true, true, true, false, true, true, true, false, true, false, false, false, false] rfl rfl (any_of HT_.out (by kernel_rfl)) (fun _ _ _ h => h) (Or.inl ⟨by rfl, ?_⟩) ?_ ?_
                                        rotate_left
                                        · intro w'
                                          go_simp
                                          with_reducible rfl
                                        rotate_left
                                        · simp only [Act.put, List.setIfInBounds_toArray, List.set_cons_zero, List.set_cons_succ, i64_w, i32_w]
                                          rfl
                                        refine take_ (i := 4) (N := some 52) (v := ?_) (a' := ?_) #[true, true, true, true, true, true, true, true, false, true, false, false, false, false] rfl rfl (take_ofW HT_.out HW_.out (by kernel_rfl)) (fun _ _ _ h => h) (Or.inl ⟨by rfl, ?_⟩) hHeld ?_ ?_
                                        rotate_left
                                        · rintro w' ⟨s0, s1, s2⟩
                                          go_simp
                                          with_reducible rfl
                                        rotate_left
                                        · simp only [Act.put, List.setIfInBounds_toArray, List.set_cons_zero, List.set_cons_succ, i64_w, i32_w]
                                          rfl
                                        refine take_ (i := 8) (N := some 56) (v := ?_) (a' := ?_) #[true, true, true, true, true, true, true, true, true, true, false, false, false, false] rfl rfl (take_ofW HT_.out HW_.out (by kernel_rfl)) (fun _ _ _ h => h) (Or.inl ⟨by rfl, ?_⟩) hHeld ?_ ?_
                                        rotate_left
                                        · rintro w' ⟨s0, s1, s2⟩
                                          go_simp
                                          with_reducible rfl
                                        rotate_left
                                        · simp only [Act.put, List.setIfInBounds_toArray, List.set_cons_zero, List.set_cons_succ, i64_w, i32_w]
                                          rfl
                                        refine pure_ (i := 10) (N := some 58) (v := ?_) (a' := ?_) #[true, true, true, true, true, true, true, true, true, true, true, false, false, false] rfl rfl (any_of HT_.out (by kernel_rfl)) (fun _ _ _ h => h) (Or.inl ⟨by rfl, ?_⟩) ?_ ?_
                                        rotate_left
                                        · intro w'
                                          go_simp
                                          with_reducible rfl
                                        rotate_left
                                        · simp only [Act.put, List.setIfInBounds_toArray, List.set_cons_zero, List.set_cons_succ, i64_w, i32_w]
                                          rfl
                                        refine take_ (i := 11) (N := some 59) (v := ?_) (a' := ?_) #[true, true, true, true, true, true, true, true, true, true, true, true, false, false] rfl rfl (take_ofW HT_.out HW_.out (by kernel_rfl)) (fun _ _ _ h => h) (Or.inl ⟨by rfl, ?_⟩) hHeld ?_ ?_
                                        rotate_left
                                        · rintro w' ⟨s0, s1, s2⟩
                                          go_simp
                                          with_reducible rfl
                                        rotate_left
                                        · simp only [Act.put, List.setIfInBounds_toArray, List.set_cons_zero, List.set_cons_succ, i64_w, i32_w]
                                          rfl
                                        refine one_ (i := 12) (N := some 60) #[true, true, true, true, true, true, true, true, true, true, true, true, true, false] rfl rfl (one_of HT_.out (by kernel_rfl)) (by decide) (fun K hK => ?_)
                                        refine Go.Proofs.YtffcdglhobdlhaaDoorB.goesv_ Tryd.func9 (by kernel_rfl) rfl #[.slice A212_0 (rd_L1 y203 x10_2).length c212_0, .int .i64 (rd (rd_L1 y203 x9_1) x11_3)] (by rfl) rfl rfl (by (try simp only [List.map_toArray, List.map_cons, List.map_nil]); first | done | rfl | (simp only [List.length_drop, List.length_take]; rfl)) ?_
                                        with_reducible refine (humpyardlaw21_TraceShares_1.calls k3 _ _ (rd_L1 y203 x10_2) (rd (rd_L1 y203 x9_1) x11_3) true _ ?side1 ?side2 A18.out).mono ?_
                                        (case side1 => repeat (first | exact (Kd.C_below HR212_0.out HB.out) | (with_reducible refine Kd.C_alloc ?_ _) | (with_reducible refine Kd.C_drewN ?_ _) | (with_reducible refine Kd.C_drew ?_)))
                                        (case side2 => exact HC212_0.out)
                                        rintro e w' ⟨rfl, ⟨nd, rfl⟩⟩
                                        refine ⟨_, rfl, ?_⟩
                                        refine hK.out _ _ ⟨((HB.out.cell (World.block_lt_of_cell? w _ hw212_0)).trans hw212_0), ((HB.out.cell (World.block_lt_of_cell? w _ hw213_0)).trans hw213_0), ((HB.out.cell (World.block_lt_of_cell? w _ hw214_0)).trans hw214_0)⟩ (fun hHeld => ?_)
                                        clear hK K
                                        refine norm_ (a' := ?_) ?_ ?_
                                        rotate_left
                                        · show Act.put _ (some 60) _ = _
                                          simp only [Act.put, List.setIfInBounds_toArray, List.set_cons_zero, List.set_cons_succ, i64_w, i32_w]
                                          rfl
                                        refine pure_ (i := 13) (N := some 61) (v := ?_) (a' := ?_) #[true, true, true, true, true, true, true, true, true, true, true, true, true, true] rfl rfl (any_of HT_.out (by kernel_rfl)) (fun _ _ _ h => h) (Or.inl ⟨by rfl, ?_⟩) ?_ ?_
                                        rotate_left
                                        · intro w'
                                          go_simp
                                          with_reducible rfl
                                        rotate_left
                                        · simp only [Act.put, List.setIfInBounds_toArray, List.set_cons_zero, List.set_cons_succ, i64_w, i32_w]
                                          rfl
                                        refine done_ (done_of HT_.out (by kernel_rfl)) ?_
                                        try go_wp2
                                        go_ret
                                        exact ⟨by first | rfl | (simp [errW_none, errW_some] <;> rfl) | (simp only [← hji3]; first | rfl | (simp [errW_none, errW_some] <;> rfl)) | (simp [*, errW_none, errW_some] <;> rfl), by repeat (first | (with_reducible first | exact HB.out | apply below_alloc | apply pw_below_drewN | apply below_drew1) | exact HB.out)⟩
                                      · rw [if_neg c21] at H
                                        have c21b0 : decide (x9_1 < t207) = false := decide_eq_false c21
                                        clear c21
                                        by_cases c23 : x9_1 = t207
                                        · rw [if_pos c23] at H
                                          have c23b0 : (x9_1 == t207) = true := beq_iff_eq.mpr c23
                                          have c23b1 : (x9_1 != t207) = false := bne_eq_false_iff_eq.mpr c23
                                          clear c23
                                          by_cases c24 : x10_2 < t208
                                          · rw [if_pos c24] at H
                                            have c24b0 : decide (x10_2 < t208) = true := decide_eq_true c24
                                            clear c24
                                            obtain rfl := Option.some.inj H
                                            have p211 : 0 ≤ (x9_1 : Int) := of_decide_eq_true (by first | (with_reducible assumption) | assumption)
                                            have q211 : x9_1 < (y203.length : Int) := of_decide_eq_true (by first | (with_reducible assumption) | assumption)
                                            obtain ⟨ad211, A211_0, c211_0, e211, hx211_0, hl211_0, hi211_0⟩ := at_L1 HR206.out x9_1 p211 q211
                                            cases e211
                                            replace hx211_0 := (HB.out.cell (World.block_lt_of_cell? w _ hx211_0)).trans hx211_0
                                            have HR211_0 := Aside0.mk hi211_0
                                            have HC211_0 := Aside0.mk hl211_0
                                            clear hi211_0 hl211_0
                                            replace p211 := eq_true p211
                                            replace q211 := eq_true q211
                                            try go_wp2
                                            have n0_ := Aside0.mk (below_drew1 HB.out)
                                            clear HB
                                            have HB := n0_
                                            clear n0_
                                            have p212 : 0 ≤ (x10_2 : Int) := of_decide_eq_true (by first | (with_reducible assumption) | assumption)
                                            have q212 : x10_2 < (y203.length : Int) := of_decide_eq_true (by first | (with_reducible assumption) | assumption)
                                            obtain ⟨ad212, A212_0, c212_0, e212, hx212_0, hl212_0, hi212_0⟩ := at_L1 HR206.out x10_2 p212 q212
                                            have hw212_0 := hx212_0
                                            obtain rfl : ad211 = ad212 := (by injection e212)
                                            replace hx212_0 := (HB.out.cell (World.block_lt_of_cell? w _ hx212_0)).trans hx212_0
                                            have HR212_0 := Aside0.mk hi212_0
                                            have HC212_0 := Aside0.mk hl212_0
                                            clear hi212_0 hl212_0
                                            replace p212 := eq_true p212
                                            replace q212 := eq_true q212
                                            have p213 : 0 ≤ (x9_1 : Int) := of_decide_eq_true (by first | (with_reducible assumption) | assumption)
                                            have q213 : x9_1 < (y203.length : Int) := of_decide_eq_true (by first | (with_reducible assumption) | assumption)
                                            obtain ⟨ad213, A213_0, c213_0, e213, hx213_0, hl213_0, hi213_0⟩ := at_L1 HR206.out x9_1 p213 q213
                                            have hw213_0 := hx213_0
                                            obtain rfl : ad211 = ad213 := (by injection e213)
                                            replace hx213_0 := (HB.out.cell (World.block_lt_of_cell? w _ hx213_0)).trans hx213_0
                                            have HR213_0 := Aside0.mk hi213_0
                                            have HC213_0 := Aside0.mk hl213_0
                                            clear hi213_0 hl213_0
                                            replace p213 := eq_true p213
                                            replace q213 := eq_true q213
                                            have p214 : 0 ≤ (x11_3 : Int) := of_decide_eq_true (by first | (with_reducible assumption) | assumption)
                                            have q214 : x11_3 < ((rd_L1 y203 x9_1).length : Int) := of_decide_eq_true (by first | (with_reducible assumption) | assumption)
                                            obtain ⟨ad214, e214, hx214_0⟩ := Kd.at_int HR213_0.out x11_3 p214 q214
                                            have hw214_0 := hx214_0
                                            cases e214
                                            replace hx214_0 := (HB.out.cell (World.block_lt_of_cell? w _ hx214_0)).trans hx214_0
                                            replace p214 := eq_true p214
                                            replace q214 := eq_true q214
                                            refine start_ (n := 14) (S := fun w' => w'.cell? (ad211.add (x10_2).toNat) = some (.slice A212_0 (rd_L1 y203 x10_2).length c212_0) ∧ w'.cell? (ad211.add (x9_1).toNat) = some (.slice (some ad214) (rd_L1 y203 x9_1).length c213_0) ∧ w'.cell? (ad214.add (x11_3).toNat) = some (.int .i64 (rd (rd_L1 y203 x9_1) x11_3))) (ds := []) #[false, false, false, false, false, false, false, false, false, false, false, false, false, false] (by kernel_rfl) rfl rfl ⟨((HB.out.cell (World.block_lt_of_cell? w _ hw212_0)).trans hw212_0), ((HB.out.cell (World.block_lt_of_cell? w _ hw213_0)).trans hw213_0), ((HB.out.cell (World.block_lt_of_cell? w _ hw214_0)).trans hw214_0)⟩ (fun hHeld => ?_); refine with_tabW humpyardlaw21_TraceShares.tab14 humpyardlaw21_TraceShares.bits14 (fun HT_ HW_ => ?_)
                                            generalize wr.drew = w25 at HB HR212_0 HR213_0 hx212_0 hx213_0 hx214_0 hHeld ⊢
                                            refine pure_ (i := 0) (N := some 48) (v := ?_) (a' := ?_) #[true, false, false, false, false, false, false, false, false, false, false, false, false, false] rfl rfl (any_of HT_.out (by kernel_rfl)) (fun _ _ _ h => h) (Or.inl ⟨by rfl, ?_⟩) ?_ ?_
                                            rotate_left
                                            · intro w'
                                              go_simp
                                              with_reducible rfl
                                            rotate_left
                                            · simp only [Act.put, List.setIfInBounds_toArray, List.set_cons_zero, List.set_cons_succ, i64_w, i32_w]
                                              rfl
                                            refine pure_ (i := 1) (N := some 49) (v := ?_) (a' := ?_) #[true, true, false, false, false, false, false, false, false, false, false, false, false, false] rfl rfl (any_of HT_.out (by kernel_rfl)) (fun _ _ _ h => h) (Or.inl ⟨by rfl, ?_⟩) ?_ ?_
                                            rotate_left
                                            · intro w'
                                              go_simp
                                              with_reducible rfl
                                            rotate_left
                                            · simp only [Act.put, List.setIfInBounds_toArray, List.set_cons_zero, List.set_cons_succ, i64_w, i32_w]
                                              rfl
                                            refine pure_ (i := 2) (N := some 50) (v := ?_) (a' := ?_) #[true, true, true, false, false, false, false, false, false, false, false, false, false, false] rfl rfl (any_of HT_.out (by kernel_rfl)) (fun _ _ _ h => h) (Or.inl ⟨by rfl, ?_⟩) ?_ ?_
                                            rotate_left
                                            · intro w'
                                              go_simp
                                              with_reducible rfl
                                            rotate_left
                                            · simp only [Act.put, List.setIfInBounds_toArray, List.set_cons_zero, List.set_cons_succ, i64_w, i32_w]
                                              rfl
                                            refine pure_ (i := 3) (N := some 51) (v := ?_) (a' := ?_) #[true, true, true, true, false, false, false, false, false, false, false, false, false, false] rfl rfl (any_of HT_.out (by kernel_rfl)) (fun _ _ _ h => h) (Or.inl ⟨by rfl, ?_⟩) ?_ ?_
                                            rotate_left
                                            · intro w'
                                              go_simp
                                              with_reducible rfl
                                            rotate_left
                                            · simp only [Act.put, List.setIfInBounds_toArray, List.set_cons_zero, List.set_cons_succ, i64_w, i32_w]
                                              rfl
                                            refine pure_ (i := 5) (N := some 53) (v := ?_) (a' := ?_) #[true, true, true, true, false, true, false, false, false, false, false, false, false, false] rfl rfl (any_of HT_.out (by kernel_rfl)) (fun _ _ _ h => h) (Or.inl ⟨by rfl, ?_⟩) ?_ ?_
                                            rotate_left
                                            · intro w'
                                              go_simp
                                              with_reducible rfl
                                            rotate_left
                                            · simp only [Act.put, List.setIfInBounds_toArray, List.set_cons_zero, List.set_cons_succ, i64_w, i32_w]
                                              rfl
                                            refine pure_ (i := 6) (N := some 54) (v := ?_) (a' := ?_) #[true, true, true, true, false, true, true, false, false, false, false, false, false, false] rfl rfl (any_of HT_.out (by kernel_rfl)) (fun _ _ _ h => h) (Or.inl ⟨by rfl, ?_⟩) ?_ ?_
                                            rotate_left
                                            · intro w'
                                              go_simp
                                              with_reducible rfl
                                            rotate_left
                                            · simp only [Act.put, List.setIfInBounds_toArray, List.set_cons_zero, List.set_cons_succ, i64_w, i32_w]
                                              rfl
                                            refine pure_ (i := 7) (N := some 55) (v := ?_) (a' := ?_) #[true, true, true, true, false, true, true, true, false, false, false, false, false, false] rfl rfl (any_of HT_.out (by kernel_rfl)) (fun _ _ _ h => h) (Or.inl ⟨by rfl, ?_⟩) ?_ ?_
                                            rotate_left
                                            · intro w'
                                              go_simp
                                              with_reducible rfl
                                            rotate_left
                                            · simp only [Act.put, List.setIfInBounds_toArray, List.set_cons_zero, List.set_cons_succ, i64_w, i32_w]
                                              rfl
                                            refine pure_ (i := 9) (N := some 57) (v := ?_) (a' := ?_) #[true, true, true, true, false, true, true, true, false, true, false, false, false, false] rfl rfl (any_of HT_.out (by kernel_rfl)) (fun _ _ _ h => h) (Or.inl ⟨by rfl, ?_⟩) ?_ ?_
                                            rotate_left
                                            · intro w'
                                              go_simp
                                              with_reducible rfl
                                            rotate_left
                                            · simp only [Act.put, List.setIfInBounds_toArray, List.set_cons_zero, List.set_cons_succ, i64_w, i32_w]
                                              rfl
                                            refine take_ (i := 4) (N := some 52) (v := ?_) (a' := ?_) #[true, true, true, true, true, true, true, true, false, true, false, false, false, false] rfl rfl (take_ofW HT_.out HW_.out (by kernel_rfl)) (fun _ _ _ h => h) (Or.inl ⟨by rfl, ?_⟩) hHeld ?_ ?_
                                            rotate_left
                                            · rintro w' ⟨s0, s1, s2⟩
                                              go_simp
                                              with_reducible rfl
                                            rotate_left
                                            · simp only [Act.put, List.setIfInBounds_toArray, List.set_cons_zero, List.set_cons_succ, i64_w, i32_w]
                                              rfl
                                            refine take_ (i := 8) (N := some 56) (v := ?_) (a' := ?_) #[true, true, true, true, true, true, true, true, true, true, false, false, false, false] rfl rfl (take_ofW HT_.out HW_.out (by kernel_rfl)) (fun _ _ _ h => h) (Or.inl ⟨by rfl, ?_⟩) hHeld ?_ ?_
                                            rotate_left
                                            · rintro w' ⟨s0, s1, s2⟩
                                              go_simp
                                              with_reducible rfl
                                            rotate_left
                                            · simp only [Act.put, List.setIfInBounds_toArray, List.set_cons_zero, List.set_cons_succ, i64_w, i32_w]
                                              rfl
                                            refine pure_ (i := 10) (N := some 58) (v := ?_) (a' := ?_) #[true, true, true, true, true, true, true, true, true, true, true, false, false, false] rfl rfl (any_of HT_.out (by kernel_rfl)) (fun _ _ _ h => h) (Or.inl ⟨by rfl, ?_⟩) ?_ ?_
                                            rotate_left
                                            · intro w'
                                              go_simp
                                              with_reducible rfl
                                            rotate_left
                                            · simp only [Act.put, List.setIfInBounds_toArray, List.set_cons_zero, List.set_cons_succ, i64_w, i32_w]
                                              rfl
                                            refine take_ (i := 11) (N := some 59) (v := ?_) (a' := ?_) #[true, true, true, true, true, true, true, true, true, true, true, true, false, false] rfl rfl (take_ofW HT_.out HW_.out (by kernel_rfl)) (fun _ _ _ h => h) (Or.inl ⟨by rfl, ?_⟩) hHeld ?_ ?_
                                            rotate_left
                                            · rintro w' ⟨s0, s1, s2⟩
                                              go_simp
                                              with_reducible rfl
                                            rotate_left
                                            · simp only [Act.put, List.setIfInBounds_toArray, List.set_cons_zero, List.set_cons_succ, i64_w, i32_w]
                                              rfl
                                            refine one_ (i := 12) (N := some 60) #[true, true, true, true, true, true, true, true, true, true, true, true, true, false] rfl rfl (one_of HT_.out (by kernel_rfl)) (by decide) (fun K hK => ?_)
                                            refine Go.Proofs.YtffcdglhobdlhaaDoorB.goesv_ Tryd.func9 (by kernel_rfl) rfl #[.slice A212_0 (rd_L1 y203 x10_2).length c212_0, .int .i64 (rd (rd_L1 y203 x9_1) x11_3)] (by rfl) rfl rfl (by (try simp only [List.map_toArray, List.map_cons, List.map_nil]); first | done | rfl | (simp only [List.length_drop, List.length_take]; rfl)) ?_
                                            with_reducible refine (humpyardlaw21_TraceShares_1.calls k3 _ _ (rd_L1 y203 x10_2) (rd (rd_L1 y203 x9_1) x11_3) true _ ?side1 ?side2 A18.out).mono ?_
                                            (case side1 => repeat (first | exact (Kd.C_below HR212_0.out HB.out) | (with_reducible refine Kd.C_alloc ?_ _) | (with_reducible refine Kd.C_drewN ?_ _) | (with_reducible refine Kd.C_drew ?_)))
                                            (case side2 => exact HC212_0.out)
                                            rintro e w' ⟨rfl, ⟨nd, rfl⟩⟩
                                            refine ⟨_, rfl, ?_⟩
                                            refine hK.out _ _ ⟨((HB.out.cell (World.block_lt_of_cell? w _ hw212_0)).trans hw212_0), ((HB.out.cell (World.block_lt_of_cell? w _ hw213_0)).trans hw213_0), ((HB.out.cell (World.block_lt_of_cell? w _ hw214_0)).trans hw214_0)⟩ (fun hHeld => ?_)
                                            clear hK K
                                            refine norm_ (a' := ?_) ?_ ?_
                                            rotate_left
                                            · show Act.put _ (some 60) _ = _
                                              simp only [Act.put, List.setIfInBounds_toArray, List.set_cons_zero, List.set_cons_succ, i64_w, i32_w]
                                              rfl
                                            refine pure_ (i := 13) (N := some 61) (v := ?_) (a' := ?_) #[true, true, true, true, true, true, true, true, true, true, true, true, true, true] rfl rfl (any_of HT_.out (by kernel_rfl)) (fun _ _ _ h => h) (Or.inl ⟨by rfl, ?_⟩) ?_ ?_
                                            rotate_left
                                            · intro w'
                                              go_simp
                                              with_reducible rfl
                                            rotate_left
                                            · simp only [Act.put, List.setIfInBounds_toArray, List.set_cons_zero, List.set_cons_succ, i64_w, i32_w]
                                              rfl
                                            refine done_ (done_of HT_.out (by kernel_rfl)) ?_
                                            try go_wp2
                                            go_ret
                                            exact ⟨by first | rfl | (simp [errW_none, errW_some] <;> rfl) | (simp only [← hji3]; first | rfl | (simp [errW_none, errW_some] <;> rfl)) | (simp [*, errW_none, errW_some] <;> rfl), by repeat (first | (with_reducible first | exact HB.out | apply below_alloc | apply pw_below_drewN | apply below_drew1) | exact HB.out)⟩
                                          · rw [if_neg c24] at H
                                            have c24b0 : decide (x10_2 < t208) = false := decide_eq_false c24
                                            clear c24
                                            by_cases c26 : x10_2 = t208
                                            · rw [if_pos c26] at H
                                              have c26b0 : (x10_2 == t208) = true := beq_iff_eq.mpr c26
                                              have c26b1 : (x10_2 != t208) = false := bne_eq_false_iff_eq.mpr c26
                                              clear c26
                                              by_cases c27 : (rd (rd_L1 y203 x9_1) x11_3) < t209
                                              · rw [if_pos c27] at H
                                                have c27b0 : decide ((rd (rd_L1 y203 x9_1) x11_3) < t209) = true := decide_eq_true c27
                                                clear c27
                                                obtain rfl := Option.some.inj H
                                                have p211 : 0 ≤ (x9_1 : Int) := of_decide_eq_true (by first | (with_reducible assumption) | assumption)
                                                have q211 : x9_1 < (y203.length : Int) := of_decide_eq_true (by first | (with_reducible assumption) | assumption)
                                                obtain ⟨ad211, A211_0, c211_0, e211, hx211_0, hl211_0, hi211_0⟩ := at_L1 HR206.out x9_1 p211 q211
                                                cases e211
                                                replace hx211_0 := (HB.out.cell (World.block_lt_of_cell? w _ hx211_0)).trans hx211_0
                                                have HR211_0 := Aside0.mk hi211_0
                                                have HC211_0 := Aside0.mk hl211_0
                                                clear hi211_0 hl211_0
                                                replace p211 := eq_true p211
                                                replace q211 := eq_true q211
                                                try go_wp2
                                                have n0_ := Aside0.mk (below_drew1 HB.out)
                                                clear HB
                                                have HB := n0_
                                                clear n0_
                                                have p212 : 0 ≤ (x10_2 : Int) := of_decide_eq_true (by first | (with_reducible assumption) | assumption)
                                                have q212 : x10_2 < (y203.length : Int) := of_decide_eq_true (by first | (with_reducible assumption) | assumption)
                                                obtain ⟨ad212, A212_0, c212_0, e212, hx212_0, hl212_0, hi212_0⟩ := at_L1 HR206.out x10_2 p212 q212
                                                have hw212_0 := hx212_0
                                                obtain rfl : ad211 = ad212 := (by injection e212)
                                                replace hx212_0 := (HB.out.cell (World.block_lt_of_cell? w _ hx212_0)).trans hx212_0
                                                have HR212_0 := Aside0.mk hi212_0
                                                have HC212_0 := Aside0.mk hl212_0
                                                clear hi212_0 hl212_0
                                                replace p212 := eq_true p212
                                                replace q212 := eq_true q212
                                                have p213 : 0 ≤ (x9_1 : Int) := of_decide_eq_true (by first | (with_reducible assumption) | assumption)
                                                have q213 : x9_1 < (y203.length : Int) := of_decide_eq_true (by first | (with_reducible assumption) | assumption)
                                                obtain ⟨ad213, A213_0, c213_0, e213, hx213_0, hl213_0, hi213_0⟩ := at_L1 HR206.out x9_1 p213 q213
                                                have hw213_0 := hx213_0
                                                obtain rfl : ad211 = ad213 := (by injection e213)
                                                replace hx213_0 := (HB.out.cell (World.block_lt_of_cell? w _ hx213_0)).trans hx213_0
                                                have HR213_0 := Aside0.mk hi213_0
                                                have HC213_0 := Aside0.mk hl213_0
                                                clear hi213_0 hl213_0
                                                replace p213 := eq_true p213
                                                replace q213 := eq_true q213
                                                have p214 : 0 ≤ (x11_3 : Int) := of_decide_eq_true (by first | (with_reducible assumption) | assumption)
                                                have q214 : x11_3 < ((rd_L1 y203 x9_1).length : Int) := of_decide_eq_true (by first | (with_reducible assumption) | assumption)
                                                obtain ⟨ad214, e214, hx214_0⟩ := Kd.at_int HR213_0.out x11_3 p214 q214
                                                have hw214_0 := hx214_0
                                                cases e214
                                                replace hx214_0 := (HB.out.cell (World.block_lt_of_cell? w _ hx214_0)).trans hx214_0
                                                replace p214 := eq_true p214
                                                replace q214 := eq_true q214
                                                refine start_ (n := 14) (S := fun w' => w'.cell? (ad211.add (x10_2).toNat) = some (.slice A212_0 (rd_L1 y203 x10_2).length c212_0) ∧ w'.cell? (ad211.add (x9_1).toNat) = some (.slice (some ad214) (rd_L1 y203 x9_1).length c213_0) ∧ w'.cell? (ad214.add (x11_3).toNat) = some (.int .i64 (rd (rd_L1 y203 x9_1) x11_3))) (ds := []) #[false, false, false, false, false, false, false, false, false, false, false, false, false, false] (by kernel_rfl) rfl rfl ⟨((HB.out.cell (World.block_lt_of_cell? w _ hw212_0)).trans hw212_0), ((HB.out.cell (World.block_lt_of_cell? w _ hw213_0)).trans hw213_0), ((HB.out.cell (World.block_lt_of_cell? w _ hw214_0)).trans hw214_0)⟩ (fun hHeld => ?_); refine with_tabW humpyardlaw21_TraceShares.tab14 humpyardlaw21_TraceShares.bits14 (fun HT_ HW_ => ?_)
                                                generalize wr.drew = w28 at HB HR212_0 HR213_0 hx212_0 hx213_0 hx214_0 hHeld ⊢
                                                refine pure_ (i := 0) (N := some 48) (v := ?_) (a' := ?_) #[true, false, false, false, false, false, false, false, false, false, false, false, false, false] rfl rfl (any_of HT_.out (by kernel_rfl)) (fun _ _ _ h => h) (Or.inl ⟨by rfl, ?_⟩) ?_ ?_
                                                rotate_left
                                                · intro w'
                                                  go_simp
                                                  with_reducible rfl
                                                rotate_left
                                                · simp only [Act.put, List.setIfInBounds_toArray, List.set_cons_zero, List.set_cons_succ, i64_w, i32_w]
                                                  rfl
                                                refine pure_ (i := 1) (N := some 49) (v := ?_) (a' := ?_) #[true, true, false, false, false, false, false, false, false, false, false, false, false, false] rfl rfl (any_of HT_.out (by kernel_rfl)) (fun _ _ _ h => h) (Or.inl ⟨by rfl, ?_⟩) ?_ ?_
                                                rotate_left
                                                · intro w'
                                                  go_simp
                                                  with_reducible rfl
                                                rotate_left
                                                · simp only [Act.put, List.setIfInBounds_toArray, List.set_cons_zero, List.set_cons_succ, i64_w, i32_w]
                                                  rfl
                                                refine pure_ (i := 2) (N := some 50) (v := ?_) (a' := ?_) #[true, true, true, false, false, false, false, false, false, false, false, false, false, false] rfl rfl (any_of HT_.out (by kernel_rfl)) (fun _ _ _ h => h) (Or.inl ⟨by rfl, ?_⟩) ?_ ?_
                                                rotate_left
                                                · intro w'
                                                  go_simp
                                                  with_reducible rfl
                                                rotate_left
                                                · simp only [Act.put, List.setIfInBounds_toArray, List.set_cons_zero, List.set_cons_succ, i64_w, i32_w]
                                                  rfl
                                                refine pure_ (i := 3) (N := some 51) (v := ?_) (a' := ?_) #[true, true, true, true, false, false, false, false, false, false, false, false, false, false] rfl rfl (any_of HT_.out (by kernel_rfl)) (fun _ _ _ h => h) (Or.inl ⟨by rfl, ?_⟩) ?_ ?_
                                                rotate_left
                                                · intro w'
                                                  go_simp
                                                  with_reducible rfl
                                                rotate_left
                                                · simp only [Act.put, List.setIfInBounds_toArray, List.set_cons_zero, List.set_cons_succ, i64_w, i32_w]
                                                  rfl
                                                refine pure_ (i := 5) (N := some 53) (v := ?_) (a' := ?_) #[true, true, true, true, false, true, false, false, false, false, false, false, false, false] rfl rfl (any_of HT_.out (by kernel_rfl)) (fun _ _ _ h => h) (Or.inl ⟨by rfl, ?_⟩) ?_ ?_
                                                rotate_left
                                                · intro w'
                                                  go_simp
                                                  with_reducible rfl
                                                rotate_left
                                                · simp only [Act.put, List.setIfInBounds_toArray, List.set_cons_zero, List.set_cons_succ, i64_w, i32_w]
                                                  rfl
                                                refine pure_ (i := 6) (N := some 54) (v := ?_) (a' := ?_) #[true, true, true, true, false, true, true, false, false, false, false, false, false, false] rfl rfl (any_of HT_.out (by kernel_rfl)) (fun _ _ _ h => h) (Or.inl ⟨by rfl, ?_⟩) ?_ ?_
                                                rotate_left
                                                · intro w'
                                                  go_simp
                                                  with_reducible rfl
                                                rotate_left
                                                · simp only [Act.put, List.setIfInBounds_toArray, List.set_cons_zero, List.set_cons_succ, i64_w, i32_w]
                                                  rfl
                                                refine pure_ (i := 7) (N := some 55) (v := ?_) (a' := ?_) #[true, true, true, true, false, true, true, true, false, false, false, false, false, false] rfl rfl (any_of HT_.out (by kernel_rfl)) (fun _ _ _ h => h) (Or.inl ⟨by rfl, ?_⟩) ?_ ?_
                                                rotate_left
                                                · intro w'
                                                  go_simp
                                                  with_reducible rfl
                                                rotate_left
                                                · simp only [Act.put, List.setIfInBounds_toArray, List.set_cons_zero, List.set_cons_succ, i64_w, i32_w]
                                                  rfl
                                                refine pure_ (i := 9) (N := some 57) (v := ?_) (a' := ?_) #[true, true, true, true, false, true, true, true, false, true, false, false, false, false] rfl rfl (any_of HT_.out (by kernel_rfl)) (fun _ _ _ h => h) (Or.inl ⟨by rfl, ?_⟩) ?_ ?_
                                                rotate_left
                                                · intro w'
                                                  go_simp
                                                  with_reducible rfl
                                                rotate_left
                                                · simp only [Act.put, List.setIfInBounds_toArray, List.set_cons_zero, List.set_cons_succ, i64_w, i32_w]
                                                  rfl
                                                refine take_ (i := 4) (N := some 52) (v := ?_) (a' := ?_) #[true, true, true, true, true, true, true, true, false, true, false, false, false, false] rfl rfl (take_ofW HT_.out HW_.out (by kernel_rfl)) (fun _ _ _ h => h) (Or.inl ⟨by rfl, ?_⟩) hHeld ?_ ?_
                                                rotate_left
                                                · rintro w' ⟨s0, s1, s2⟩
                                                  go_simp
                                                  with_reducible rfl
                                                rotate_left
                                                · simp only [Act.put, List.setIfInBounds_toArray, List.set_cons_zero, List.set_cons_succ, i64_w, i32_w]
                                                  rfl
                                                refine take_ (i := 8) (N := some 56) (v := ?_) (a' := ?_) #[true, true, true, true, true, true, true, true, true, true, false, false, false, false] rfl rfl (take_ofW HT_.out HW_.out (by kernel_rfl)) (fun _ _ _ h => h) (Or.inl ⟨by rfl, ?_⟩) hHeld ?_ ?_
                                                rotate_left
                                                · rintro w' ⟨s0, s1, s2⟩
                                                  go_simp
                                                  with_reducible rfl
                                                rotate_left
                                                · simp only [Act.put, List.setIfInBounds_toArray, List.set_cons_zero, List.set_cons_succ, i64_w, i32_w]
                                                  rfl
                                                refine pure_ (i := 10) (N := some 58) (v := ?_) (a' := ?_) #[true, true, true, true, true, true, true, true, true, true, true, false, false, false] rfl rfl (any_of HT_.out (by kernel_rfl)) (fun _ _ _ h => h) (Or.inl ⟨by rfl, ?_⟩) ?_ ?_
                                                rotate_left
                                                · intro w'
                                                  go_simp
                                                  with_reducible rfl
                                                rotate_left
                                                · simp only [Act.put, List.setIfInBounds_toArray, List.set_cons_zero, List.set_cons_succ, i64_w, i32_w]
                                                  rfl
                                                refine take_ (i := 11) (N := some 59) (v := ?_) (a' := ?_) #[true, true, true, true, true, true, true, true, true, true, true, true, false, false] rfl rfl (take_ofW HT_.out HW_.out (by kernel_rfl)) (fun _ _ _ h => h) (Or.inl ⟨by rfl, ?_⟩) hHeld ?_ ?_
                                                rotate_left
                                                · rintro w' ⟨s0, s1, s2⟩
                                                  go_simp
                                                  with_reducible rfl
                                                rotate_left
                                                · simp only [Act.put, List.setIfInBounds_toArray, List.set_cons_zero, List.set_cons_succ, i64_w, i32_w]
                                                  rfl
                                                refine one_ (i := 12) (N := some 60) #[true, true, true, true, true, true, true, true, true, true, true, true, true, false] rfl rfl (one_of HT_.out (by kernel_rfl)) (by decide) (fun K hK => ?_)
                                                refine Go.Proofs.YtffcdglhobdlhaaDoorB.goesv_ Tryd.func9 (by kernel_rfl) rfl #[.slice A212_0 (rd_L1 y203 x10_2).length c212_0, .int .i64 (rd (rd_L1 y203 x9_1) x11_3)] (by rfl) rfl rfl (by (try simp only [List.map_toArray, List.map_cons, List.map_nil]); first | done | rfl | (simp only [List.length_drop, List.length_take]; rfl)) ?_
                                                with_reducible refine (humpyardlaw21_TraceShares_1.calls k3 _ _ (rd_L1 y203 x10_2) (rd (rd_L1 y203 x9_1) x11_3) true _ ?side1 ?side2 A18.out).mono ?_
                                                (case side1 => repeat (first | exact (Kd.C_below HR212_0.out HB.out) | (with_reducible refine Kd.C_alloc ?_ _) | (with_reducible refine Kd.C_drewN ?_ _) | (with_reducible refine Kd.C_drew ?_)))
                                                (case side2 => exact HC212_0.out)
                                                rintro e w' ⟨rfl, ⟨nd, rfl⟩⟩
                                                refine ⟨_, rfl, ?_⟩
                                                refine hK.out _ _ ⟨((HB.out.cell (World.block_lt_of_cell? w _ hw212_0)).trans hw212_0), ((HB.out.cell (World.block_lt_of_cell? w _ hw213_0)).trans hw213_0), ((HB.out.cell (World.block_lt_of_cell? w _ hw214_0)).trans hw214_0)⟩ (fun hHeld => ?_)
                                                clear hK K
                                                refine norm_ (a' := ?_) ?_ ?_
                                                rotate_left
                                                · show Act.put _ (some 60) _ = _
                                                  simp only [Act.put, List.setIfInBounds_toArray, List.set_cons_zero, List.set_cons_succ, i64_w, i32_w]
                                                  rfl
                                                refine pure_ (i := 13) (N := some 61) (v := ?_) (a' := ?_) #[true, true, true, true, true, true, true, true, true, true, true, true, true, true] rfl rfl (any_of HT_.out (by kernel_rfl)) (fun _ _ _ h => h) (Or.inl ⟨by rfl, ?_⟩) ?_ ?_
                                                rotate_left
                                                · intro w'
                                                  go_simp
                                                  with_reducible rfl
                                                rotate_left
                                                · simp only [Act.put, List.setIfInBounds_toArray, List.set_cons_zero, List.set_cons_succ, i64_w, i32_w]
                                                  rfl
                                                refine done_ (done_of HT_.out (by kernel_rfl)) ?_
                                                have p216 : 0 ≤ (x9_1 : Int) := of_decide_eq_true (by first | (with_reducible assumption) | assumption)
                                                have q216 : x9_1 < (y203.length : Int) := of_decide_eq_true (by first | (with_reducible assumption) | assumption)
                                                obtain ⟨ad216, A216_0, c216_0, e216, hx216_0, hl216_0, hi216_0⟩ := at_L1 HR206.out x9_1 p216 q216
                                                obtain rfl : ad211 = ad216 := (by injection e216)
                                                replace hx216_0 := (HB.out.cell (World.block_lt_of_cell? w _ hx216_0)).trans hx216_0
                                                have HR216_0 := Aside0.mk hi216_0
                                                have HC216_0 := Aside0.mk hl216_0
                                                clear hi216_0 hl216_0
                                                replace p216 := eq_true p216
                                                replace q216 := eq_true q216
                                                have ea_ := Option.some.inj (hx213_0.symm.trans hx216_0)
                                                injection ea_ with ea_ en_ ec_
                                                subst ea_
                                                subst ec_
                                                clear en_
                                                have p217 : 0 ≤ (x11_3 : Int) := of_decide_eq_true (by first | (with_reducible assumption) | assumption)
                                                have q217 : x11_3 < ((rd_L1 y203 x9_1).length : Int) := of_decide_eq_true (by first | (with_reducible assumption) | assumption)
                                                obtain ⟨ad217, e217, hx217_0⟩ := Kd.at_int HR216_0.out x11_3 p217 q217
                                                cases e217
                                                replace hx217_0 := (HB.out.cell (World.block_lt_of_cell? w _ hx217_0)).trans hx217_0
                                                replace p217 := eq_true p217
                                                replace q217 := eq_true q217
                                                try go_wp2
                                                go_ret
                                                exact ⟨by first | rfl | (simp [errW_none, errW_some] <;> rfl) | (simp only [← hji3]; first | rfl | (simp [errW_none, errW_some] <;> rfl)) | (simp [*, errW_none, errW_some] <;> rfl), by repeat (first | (with_reducible first | exact HB.out | apply below_alloc | apply pw_below_drewN | apply below_drew1) | exact HB.out)⟩
                                              · rw [if_neg c27] at H
                                                have c27b0 : decide ((rd (rd_L1 y203 x9_1) x11_3) < t209) = false := decide_eq_false c27
                                                clear c27
                                                have H' := Aside0.mk H
                                                clear H
                                                have p211 : 0 ≤ (x9_1 : Int) := of_decide_eq_true (by first | (with_reducible assumption) | assumption)
                                                have q211 : x9_1 < (y203.length : Int) := of_decide_eq_true (by first | (with_reducible assumption) | assumption)
                                                obtain ⟨ad211, A211_0, c211_0, e211, hx211_0, hl211_0, hi211_0⟩ := at_L1 HR206.out x9_1 p211 q211
                                                cases e211
                                                replace hx211_0 := (HB.out.cell (World.block_lt_of_cell? w _ hx211_0)).trans hx211_0
                                                have HR211_0 := Aside0.mk hi211_0
                                                have HC211_0 := Aside0.mk hl211_0
                                                clear hi211_0 hl211_0
                                                replace p211 := eq_true p211
                                                replace q211 := eq_true q211
                                                try go_wp2
                                                have n0_ := Aside0.mk (below_drew1 HB.out)
                                                clear HB
                                                have HB := n0_
                                                clear n0_
                                                have p212 : 0 ≤ (x10_2 : Int) := of_decide_eq_true (by first | (with_reducible assumption) | assumption)
                                                have q212 : x10_2 < (y203.length : Int) := of_decide_eq_true (by first | (with_reducible assumption) | assumption)
                                                obtain ⟨ad212, A212_0, c212_0, e212, hx212_0, hl212_0, hi212_0⟩ := at_L1 HR206.out x10_2 p212 q212
                                                have hw212_0 := hx212_0
                                                obtain rfl : ad211 = ad212 := (by injection e212)
                                                replace hx212_0 := (HB.out.cell (World.block_lt_of_cell? w _ hx212_0)).trans hx212_0
                                                have HR212_0 := Aside0.mk hi212_0
                                                have HC212_0 := Aside0.mk hl212_0
                                                clear hi212_0 hl212_0
                                                replace p212 := eq_true p212
                                                replace q212 := eq_true q212
                                                have p213 : 0 ≤ (x9_1 : Int) := of_decide_eq_true (by first | (with_reducible assumption) | assumption)
                                                have q213 : x9_1 < (y203.length : Int) := of_decide_eq_true (by first | (with_reducible assumption) | assumption)
                                                obtain ⟨ad213, A213_0, c213_0, e213, hx213_0, hl213_0, hi213_0⟩ := at_L1 HR206.out x9_1 p213 q213
                                                have hw213_0 := hx213_0
                                                obtain rfl : ad211 = ad213 := (by injection e213)
                                                replace hx213_0 := (HB.out.cell (World.block_lt_of_cell? w _ hx213_0)).trans hx213_0
                                                have HR213_0 := Aside0.mk hi213_0
                                                have HC213_0 := Aside0.mk hl213_0
                                                clear hi213_0 hl213_0
                                                replace p213 := eq_true p213
                                                replace q213 := eq_true q213
                                                have p214 : 0 ≤ (x11_3 : Int) := of_decide_eq_true (by first | (with_reducible assumption) | assumption)
                                                have q214 : x11_3 < ((rd_L1 y203 x9_1).length : Int) := of_decide_eq_true (by first | (with_reducible assumption) | assumption)
                                                obtain ⟨ad214, e214, hx214_0⟩ := Kd.at_int HR213_0.out x11_3 p214 q214
                                                have hw214_0 := hx214_0
                                                cases e214
                                                replace hx214_0 := (HB.out.cell (World.block_lt_of_cell? w _ hx214_0)).trans hx214_0
                                                replace p214 := eq_true p214
                                                replace q214 := eq_true q214
                                                refine start_ (n := 14) (S := fun w' => w'.cell? (ad211.add (x10_2).toNat) = some (.slice A212_0 (rd_L1 y203 x10_2).length c212_0) ∧ w'.cell? (ad211.add (x9_1).toNat) = some (.slice (some ad214) (rd_L1 y203 x9_1).length c213_0) ∧ w'.cell? (ad214.add (x11_3).toNat) = some (.int .i64 (rd (rd_L1 y203 x9_1) x11_3))) (ds := []) #[false, false, false, false, false, false, false, false, false, false, false, false, false, false] (by kernel_rfl) rfl rfl ⟨((HB.out.cell (World.block_lt_of_cell? w _ hw212_0)).trans hw212_0), ((HB.out.cell (World.block_lt_of_cell? w _ hw213_0)).trans hw213_0), ((HB.out.cell (World.block_lt_of_cell? w _ hw214_0)).trans hw214_0)⟩ (fun hHeld => ?_); refine with_tabW humpyardlaw21_TraceShares.tab14 humpyardlaw21_TraceShares.bits14 (fun HT_ HW_ => ?_)
                                                generalize wr.drew = w29 at HB HR212_0 HR213_0 hx212_0 hx213_0 hx214_0 hHeld ⊢
                                                refine pure_ (i := 0) (N := some 48) (v := ?_) (a' := ?_) #[true, false, false, false, false, false, false, false, false, false, false, false, false, false] rfl rfl (any_of HT_.out (by kernel_rfl)) (fun _ _ _ h => h) (Or.inl ⟨by rfl, ?_⟩) ?_ ?_
                                                rotate_left
                                                · intro w'
                                                  go_simp
                                                  with_reducible rfl
                                                rotate_left
                                                · simp only [Act.put, List.setIfInBounds_toArray, List.set_cons_zero, List.set_cons_succ, i64_w, i32_w]
                                                  rfl
                                                refine pure_ (i := 1) (N := some 49) (v := ?_) (a' := ?_) #[true, true, false, false, false, false, false, false, false, false, false, false, false, false] rfl rfl (any_of HT_.out (by kernel_rfl)) (fun _ _ _ h => h) (Or.inl ⟨by rfl, ?_⟩) ?_ ?_
                                                rotate_left
                                                · intro w'
                                                  go_simp
                                                  with_reducible rfl
                                                rotate_left
                                                · simp only [Act.put, List.setIfInBounds_toArray, List.set_cons_zero, List.set_cons_succ, i64_w, i32_w]
                                                  rfl
                                                refine pure_ (i := 2) (N := some 50) (v := ?_) (a' := ?_) #[true, true, true, false, false, false, false, false, false, false, false, false, false, false] rfl rfl (any_of HT_.out (by kernel_rfl)) (fun _ _ _ h => h) (Or.inl ⟨by rfl, ?_⟩) ?_ ?_
                                                rotate_left
                                                · intro w'
                                                  go_simp
                                                  with_reducible rfl
                                                rotate_left
                                                · simp only [Act.put, List.setIfInBounds_toArray, List.set_cons_zero, List.set_cons_succ, i64_w, i32_w]
                                                  rfl
                                                refine pure_ (i := 3) (N := some 51) (v := ?_) (a' := ?_) #[true, true, true, true, false, false, false, false, false, false, false, false, false, false] rfl rfl (any_of HT_.out (by kernel_rfl)) (fun _ _ _ h => h) (Or.inl ⟨by rfl, ?_⟩) ?_ ?_
                                                rotate_left
                                                · intro w'
                                                  go_simp
                                                  with_reducible rfl
                                                rotate_left
                                                · simp only [Act.put, List.setIfInBounds_toArray, List.set_cons_zero, List.set_cons_succ, i64_w, i32_w]
                                                  rfl
                                                refine pure_ (i := 5) (N := some 53) (v := ?_) (a' := ?_) #[true, true, true, true, false, true, false, false, false, false, false, false, false, false] rfl rfl (any_of HT_.out (by kernel_rfl)) (fun _ _ _ h => h) (Or.inl ⟨by rfl, ?_⟩) ?_ ?_
                                                rotate_left
                                                · intro w'
                                                  go_simp
                                                  with_reducible rfl
                                                rotate_left
                                                · simp only [Act.put, List.setIfInBounds_toArray, List.set_cons_zero, List.set_cons_succ, i64_w, i32_w]
                                                  rfl
                                                refine pure_ (i := 6) (N := some 54) (v := ?_) (a' := ?_) #[true, true, true, true, false, true, true, false, false, false, false, false, false, false] rfl rfl (any_of HT_.out (by kernel_rfl)) (fun _ _ _ h => h) (Or.inl ⟨by rfl, ?_⟩) ?_ ?_
                                                rotate_left
                                                · intro w'
                                                  go_simp
                                                  with_reducible rfl
                                                rotate_left
                                                · simp only [Act.put, List.setIfInBounds_toArray, List.set_cons_zero, List.set_cons_succ, i64_w, i32_w]
                                                  rfl
                                                refine pure_ (i := 7) (N := some 55) (v := ?_) (a' := ?_) #[true, true, true, true, false, true, true, true, false, false, false, false, false, false] rfl rfl (any_of HT_.out (by kernel_rfl)) (fun _ _ _ h => h) (Or.inl ⟨by rfl, ?_⟩) ?_ ?_
                                                rotate_left
                                                · intro w'
                                                  go_simp
                                                  with_reducible rfl
                                                rotate_left
                                                · simp only [Act.put, List.setIfInBounds_toArray, List.set_cons_zero, List.set_cons_succ, i64_w, i32_w]
                                                  rfl
                                                refine pure_ (i := 9) (N := some 57) (v := ?_) (a' := ?_) #[true, true, true, true, false, true, true, true, false, true, false, false, false, false] rfl rfl (any_of HT_.out (by kernel_rfl)) (fun _ _ _ h => h) (Or.inl ⟨by rfl, ?_⟩) ?_ ?_
                                                rotate_left
                                                · intro w'
                                                  go_simp
                                                  with_reducible rfl
                                                rotate_left
                                                · simp only [Act.put, List.setIfInBounds_toArray, List.set_cons_zero, List.set_cons_succ, i64_w, i32_w]
                                                  rfl
                                                refine take_ (i := 4) (N := some 52) (v := ?_) (a' := ?_) #[true, true, true, true, true, true, true, true, false, true, false, false, false, false] rfl rfl (take_ofW HT_.out HW_.out (by kernel_rfl)) (fun _ _ _ h => h) (Or.inl ⟨by rfl, ?_⟩) hHeld ?_ ?_
                                                rotate_left
                                                · rintro w' ⟨s0, s1, s2⟩
                                                  go_simp
                                                  with_reducible rfl
                                                rotate_left
                                                · simp only [Act.put, List.setIfInBounds_toArray, List.set_cons_zero, List.set_cons_succ, i64_w, i32_w]
                                                  rfl
                                                refine take_ (i := 8) (N := some 56) (v := ?_) (a' := ?_) #[true, true, true, true, true, true, true, true, true, true, false, false, false, false] rfl rfl (take_ofW HT_.out HW_.out (by kernel_rfl)) (fun _ _ _ h => h) (Or.inl ⟨by rfl, ?_⟩) hHeld ?_ ?_
                                                rotate_left
                                                · rintro w' ⟨s0, s1, s2⟩
                                                  go_simp
                                                  with_reducible rfl
                                                rotate_left
                                                · simp only [Act.put, List.setIfInBounds_toArray, List.set_cons_zero, List.set_cons_succ, i64_w, i32_w]
                                                  rfl
                                                refine pure_ (i := 10) (N := some 58) (v := ?_) (a' := ?_) #[true, true, true, true, true, true, true, true, true, true, true, false, false, false] rfl rfl (any_of HT_.out (by kernel_rfl)) (fun _ _ _ h => h) (Or.inl ⟨by rfl, ?_⟩) ?_ ?_
                                                rotate_left
                                                · intro w'
                                                  go_simp
                                                  with_reducible rfl
                                                rotate_left
                                                · simp only [Act.put, List.setIfInBounds_toArray, List.set_cons_zero, List.set_cons_succ, i64_w, i32_w]
                                                  rfl
                                                refine take_ (i := 11) (N := some 59) (v := ?_) (a' := ?_) #[true, true, true, true, true, true, true, true, true, true, true, true, false, false] rfl rfl (take_ofW HT_.out HW_.out (by kernel_rfl)) (fun _ _ _ h => h) (Or.inl ⟨by rfl, ?_⟩) hHeld ?_ ?_
                                                rotate_left
                                                · rintro w' ⟨s0, s1, s2⟩
                                                  go_simp
                                                  with_reducible rfl
                                                rotate_left
                                                · simp only [Act.put, List.setIfInBounds_toArray, List.set_cons_zero, List.set_cons_succ, i64_w, i32_w]
                                                  rfl
                                                refine one_ (i := 12) (N := some 60) #[true, true, true, true, true, true, true, true, true, true, true, true, true, false] rfl rfl (one_of HT_.out (by kernel_rfl)) (by decide) (fun K hK => ?_)
                                                refine Go.Proofs.YtffcdglhobdlhaaDoorB.goesv_ Tryd.func9 (by kernel_rfl) rfl #[.slice A212_0 (rd_L1 y203 x10_2).length c212_0, .int .i64 (rd (rd_L1 y203 x9_1) x11_3)] (by rfl) rfl rfl (by (try simp only [List.map_toArray, List.map_cons, List.map_nil]); first | done | rfl | (simp only [List.length_drop, List.length_take]; rfl)) ?_
                                                with_reducible refine (humpyardlaw21_TraceShares_1.calls k3 _ _ (rd_L1 y203 x10_2) (rd (rd_L1 y203 x9_1) x11_3) true _ ?side1 ?side2 A18.out).mono ?_
                                                (case side1 => repeat (first | exact (Kd.C_below HR212_0.out HB.out) | (with_reducible refine Kd.C_alloc ?_ _) | (with_reducible refine Kd.C_drewN ?_ _) | (with_reducible refine Kd.C_drew ?_)))
                                                (case side2 => exact HC212_0.out)
                                                rintro e w' ⟨rfl, ⟨nd, rfl⟩⟩
                                                refine ⟨_, rfl, ?_⟩
                                                refine hK.out _ _ ⟨((HB.out.cell (World.block_lt_of_cell? w _ hw212_0)).trans hw212_0), ((HB.out.cell (World.block_lt_of_cell? w _ hw213_0)).trans hw213_0), ((HB.out.cell (World.block_lt_of_cell? w _ hw214_0)).trans hw214_0)⟩ (fun hHeld => ?_)
                                                clear hK K
                                                refine norm_ (a' := ?_) ?_ ?_
                                                rotate_left
                                                · show Act.put _ (some 60) _ = _
                                                  simp only [Act.put, List.setIfInBounds_toArray, List.set_cons_zero, List.set_cons_succ, i64_w, i32_w]
                                                  rfl
                                                refine pure_ (i := 13) (N := some 61) (v := ?_) (a' := ?_) #[true, true, true, true, true, true, true, true, true, true, true, true, true, true] rfl rfl (any_of HT_.out (by kernel_rfl)) (fun _ _ _ h => h) (Or.inl ⟨by rfl, ?_⟩) ?_ ?_
                                                rotate_left
                                                · intro w'
                                                  go_simp
                                                  with_reducible rfl
                                                rotate_left
                                                · simp only [Act.put, List.setIfInBounds_toArray, List.set_cons_zero, List.set_cons_succ, i64_w, i32_w]
                                                  rfl
                                                refine done_ (done_of HT_.out (by kernel_rfl)) ?_
                                                have p216 : 0 ≤ (x9_1 : Int) := of_decide_eq_true (by first | (with_reducible assumption) | assumption)
                                                have q216 : x9_1 < (y203.length : Int) := of_decide_eq_true (by first | (with_reducible assumption) | assumption)
                                                obtain ⟨ad216, A216_0, c216_0, e216, hx216_0, hl216_0, hi216_0⟩ := at_L1 HR206.out x9_1 p216 q216
                                                obtain rfl : ad211 = ad216 := (by injection e216)
                                                replace hx216_0 := (HB.out.cell (World.block_lt_of_cell? w _ hx216_0)).trans hx216_0
                                                have HR216_0 := Aside0.mk hi216_0
                                                have HC216_0 := Aside0.mk hl216_0
                                                clear hi216_0 hl216_0
                                                replace p216 := eq_true p216
                                                replace q216 := eq_true q216
                                                have ea_ := Option.some.inj (hx213_0.symm.trans hx216_0)
                                                injection ea_ with ea_ en_ ec_
                                                subst ea_
                                                subst ec_
                                                clear en_
                                                have p217 : 0 ≤ (x11_3 : Int) := of_decide_eq_true (by first | (with_reducible assumption) | assumption)
                                                have q217 : x11_3 < ((rd_L1 y203 x9_1).length : Int) := of_decide_eq_true (by first | (with_reducible assumption) | assumption)
                                                obtain ⟨ad217, e217, hx217_0⟩ := Kd.at_int HR216_0.out x11_3 p217 q217
                                                cases e217
                                                replace hx217_0 := (HB.out.cell (World.block_lt_of_cell? w _ hx217_0)).trans hx217_0
                                                replace p217 := eq_true p217
                                                replace q217 := eq_true q217
                                                try go_wp2
                                                go_roundg k3
                                                case measure => have := HK1.out; have := HK2.out; have := HK3.out; omega
                                                case rel => exact ⟨(wrap64 (x11_3 + 1)), (by first | rfl | (simp; done) | (simp [*]; done)), H', ⟨by have := HK1.out; have := HK2.out; have := HK3.out; omega⟩, ⟨by repeat (first | (with_reducible first | exact HB.out | apply below_alloc | apply pw_below_drewN | apply below_drew1) | exact HB.out)⟩⟩
                                            · rw [if_neg c26] at H
                                              have c26b0 : (x10_2 == t208) = false := beq_eq_false_iff_ne.mpr c26
                                              have c26b1 : (x10_2 != t208) = true := bne_iff_ne.mpr c26
                                              have H' := Aside0.mk H
                                              clear H
                                              have p211 : 0 ≤ (x9_1 : Int) := of_decide_eq_true (by first | (with_reducible assumption) | assumption)
                                              have q211 : x9_1 < (y203.length : Int) := of_decide_eq_true (by first | (with_reducible assumption) | assumption)
                                              obtain ⟨ad211, A211_0, c211_0, e211, hx211_0, hl211_0, hi211_0⟩ := at_L1 HR206.out x9_1 p211 q211
                                              cases e211
                                              replace hx211_0 := (HB.out.cell (World.block_lt_of_cell? w _ hx211_0)).trans hx211_0
                                              have HR211_0 := Aside0.mk hi211_0
                                              have HC211_0 := Aside0.mk hl211_0
                                              clear hi211_0 hl211_0
                                              replace p211 := eq_true p211
                                              replace q211 := eq_true q211
                                              try go_wp2
                                              have n0_ := Aside0.mk (below_drew1 HB.out)
                                              clear HB
                                              have HB := n0_
                                              clear n0_
                                              have p212 : 0 ≤ (x10_2 : Int) := of_decide_eq_true (by first | (with_reducible assumption) | assumption)
                                              have q212 : x10_2 < (y203.length : Int) := of_decide_eq_true (by first | (with_reducible assumption) | assumption)
                                              obtain ⟨ad212, A212_0, c212_0, e212, hx212_0, hl212_0, hi212_0⟩ := at_L1 HR206.out x10_2 p212 q212
                                              have hw212_0 := hx212_0
                                              obtain rfl : ad211 = ad212 := (by injection e212)
                                              replace hx212_0 := (HB.out.cell (World.block_lt_of_cell? w _ hx212_0)).trans hx212_0
                                              have HR212_0 := Aside0.mk hi212_0
                                              have HC212_0 := Aside0.mk hl212_0
                                              clear hi212_0 hl212_0
                                              replace p212 := eq_true p212
                                              replace q212 := eq_true q212
                                              have p213 : 0 ≤ (x9_1 : Int) := of_decide_eq_true (by first | (with_reducible assumption) | assumption)
                                              have q213 : x9_1 < (y203.length : Int) := of_decide_eq_true (by first | (with_reducible assumption) | assumption)
                                              obtain ⟨ad213, A213_0, c213_0, e213, hx213_0, hl213_0, hi213_0⟩ := at_L1 HR206.out x9_1 p213 q213
                                              have hw213_0 := hx213_0
                                              obtain rfl : ad211 = ad213 := (by injection e213)
                                              replace hx213_0 := (HB.out.cell (World.block_lt_of_cell? w _ hx213_0)).trans hx213_0
                                              have HR213_0 := Aside0.mk hi213_0
                                              have HC213_0 := Aside0.mk hl213_0
                                              clear hi213_0 hl213_0
                                              replace p213 := eq_true p213
                                              replace q213 := eq_true q213
                                              have p214 : 0 ≤ (x11_3 : Int) := of_decide_eq_true (by first | (with_reducible assumption) | assumption)
                                              have q214 : x11_3 < ((rd_L1 y203 x9_1).length : Int) := of_decide_eq_true (by first | (with_reducible assumption) | assumption)
                                              obtain ⟨ad214, e214, hx214_0⟩ := Kd.at_int HR213_0.out x11_3 p214 q214
                                              have hw214_0 := hx214_0
                                              cases e214
                                              replace hx214_0 := (HB.out.cell (World.block_lt_of_cell? w _ hx214_0)).trans hx214_0
                                              replace p214 := eq_true p214
                                              replace q214 := eq_true q214
                                              refine start_ (n := 14) (S := fun w' => w'.cell? (ad211.add (x10_2).toNat) = some (.slice A212_0 (rd_L1 y203 x10_2).length c212_0) ∧ w'.cell? (ad211.add (x9_1).toNat) = some (.slice (some ad214) (rd_L1 y203 x9_1).length c213_0) ∧ w'.cell? (ad214.add (x11_3).toNat) = some (.int .i64 (rd (rd_L1 y203 x9_1) x11_3))) (ds := []) #[false, false, false, false, false, false, false, false, false, false, false, false, false, false] (by kernel_rfl) rfl rfl ⟨((HB.out.cell (World.block_lt_of_cell? w _ hw212_0)).trans hw212_0), ((HB.out.cell (World.block_lt_of_cell? w _ hw213_0)).trans hw213_0), ((HB.out.cell (World.block_lt_of_cell? w _ hw214_0)).trans hw214_0)⟩ (fun hHeld => ?_); refine with_tabW humpyardlaw21_TraceShares.tab14 humpyardlaw21_TraceShares.bits14 (fun HT_ HW_ => ?_)
                                              generalize wr.drew = w30 at HB HR212_0 HR213_0 hx212_0 hx213_0 hx214_0 hHeld ⊢
                                              refine pure_ (i := 0) (N := some 48) (v := ?_) (a' := ?_) #[true, false, false, false, false, false, false, false, false, false, false, false, false, false] rfl rfl (any_of HT_.out (by kernel_rfl)) (fun _ _ _ h => h) (Or.inl ⟨by rfl, ?_⟩) ?_ ?_
                                              rotate_left
                                              · intro w'
                                                go_simp
                                                with_reducible rfl
                                              rotate_left
                                              · simp only [Act.put, List.setIfInBounds_toArray, List.set_cons_zero, List.set_cons_succ, i64_w, i32_w]
                                                rfl
                                              refine pure_ (i := 1) (N := some 49) (v := ?_) (a' := ?_) #[true, true, false, false, false, false, false, false, false, false, false, false, false, false] rfl rfl (any_of HT_.out (by kernel_rfl)) (fun _ _ _ h => h) (Or.inl ⟨by rfl, ?_⟩) ?_ ?_
                                              rotate_left
                                              · intro w'
                                                go_simp
                                                with_reducible rfl
                                              rotate_left
                                              · simp only [Act.put, List.setIfInBounds_toArray, List.set_cons_zero, List.set_cons_succ, i64_w, i32_w]
                                                rfl
                                              refine pure_ (i := 2) (N := some 50) (v := ?_) (a' := ?_) #[true, true, true, false, false, false, false, false, false, false, false, false, false, false] rfl rfl (any_of HT_.out (by kernel_rfl)) (fun _ _ _ h => h) (Or.inl ⟨by rfl, ?_⟩) ?_ ?_
                                              rotate_left
                                              · intro w'
                                                go_simp
                                                with_reducible rfl
                                              rotate_left
                                              · simp only [Act.put, List.setIfInBounds_toArray, List.set_cons_zero, List.set_cons_succ, i64_w, i32_w]
                                                rfl
                                              refine pure_ (i := 3) (N := some 51) (v := ?_) (a' := ?_) #[true, true, true, true, false, false, false, false, false, false, false, false, false, false] rfl rfl (any_of HT_.out (by kernel_rfl)) (fun _ _ _ h => h) (Or.inl ⟨by rfl, ?_⟩) ?_ ?_
                                              rotate_left
                                              · intro w'
                                                go_simp
                                                with_reducible rfl
                                              rotate_left
                                              · simp only [Act.put, List.setIfInBounds_toArray, List.set_cons_zero, List.set_cons_succ, i64_w, i32_w]
                                                rfl
                                              refine pure_ (i := 5) (N := some 53) (v := ?_) (a' := ?_) #[true, true, true, true, false, true, false, false, false, false, false, false, false, false] rfl rfl (any_of HT_.out (by kernel_rfl)) (fun _ _ _ h => h) (Or.inl ⟨by rfl, ?_⟩) ?_ ?_
                                              rotate_left
                                              · intro w'
                                                go_simp
                                                with_reducible rfl
                                              rotate_left
                                              · simp only [Act.put, List.setIfInBounds_toArray, List.set_cons_zero, List.set_cons_succ, i64_w, i32_w]
                                                rfl
                                              refine pure_ (i := 6) (N := some 54) (v := ?_) (a' := ?_) #[true, true, true, true, false, true, true, false, false, false, false, false, false, false] rfl rfl (any_of HT_.out (by kernel_rfl)) (fun _ _ _ h => h) (Or.inl ⟨by rfl, ?_⟩) ?_ ?_
                                              rotate_left
                                              · intro w'
                                                go_simp
                                                with_reducible rfl
                                              rotate_left
                                              · simp only [Act.put, List.setIfInBounds_toArray, List.set_cons_zero, List.set_cons_succ, i64_w, i32_w]
                                                rfl
                                              refine pure_ (i := 7) (N := some 55) (v := ?_) (a' := ?_) #[true, true, true, true, false, true, true, true, false, false, false, false, false, false] rfl rfl (any_of HT_.out (by kernel_rfl)) (fun _ _ _ h => h) (Or.inl ⟨by rfl, ?_⟩) ?_ ?_
                                              rotate_left
                                              · intro w'
                                                go_simp
                                                with_reducible rfl
                                              rotate_left
                                              · simp only [Act.put, List.setIfInBounds_toArray, List.set_cons_zero, List.set_cons_succ, i64_w, i32_w]
                                                rfl
                                              refine pure_ (i := 9) (N := some 57) (v := ?_) (a' := ?_) #[true, true, true, true, false, true, true, true, false, true, false, false, false, false] rfl rfl (any_of HT_.out (by kernel_rfl)) (fun _ _ _ h => h) (Or.inl ⟨by rfl, ?_⟩) ?_ ?_
                                              rotate_left
                                              · intro w'
                                                go_simp
                                                with_reducible rfl
                                              rotate_left
                                              · simp only [Act.put, List.setIfInBounds_toArray, List.set_cons_zero, List.set_cons_succ, i64_w, i32_w]
                                                rfl
                                              refine take_ (i := 4) (N := some 52) (v := ?_) (a' := ?_) #[true, true, true, true, true, true, true, true, false, true, false, false, false, false] rfl rfl (take_ofW HT_.out HW_.out (by kernel_rfl)) (fun _ _ _ h => h) (Or.inl ⟨by rfl, ?_⟩) hHeld ?_ ?_
                                              rotate_left
                                              · rintro w' ⟨s0, s1, s2⟩
                                                go_simp
                                                with_reducible rfl
                                              rotate_left
                                              · simp only [Act.put, List.setIfInBounds_toArray, List.set_cons_zero, List.set_cons_succ, i64_w, i32_w]
                                                rfl
                                              refine take_ (i := 8) (N := some 56) (v := ?_) (a' := ?_) #[true, true, true, true, true, true, true, true, true, true, false, false, false, false] rfl rfl (take_ofW HT_.out HW_.out (by kernel_rfl)) (fun _ _ _ h => h) (Or.inl ⟨by rfl, ?_⟩) hHeld ?_ ?_
                                              rotate_left
                                              · rintro w' ⟨s0, s1, s2⟩
                                                go_simp
                                                with_reducible rfl
                                              rotate_left
                                              · simp only [Act.put, List.setIfInBounds_toArray, List.set_cons_zero, List.set_cons_succ, i64_w, i32_w]
                                                rfl
                                              refine pure_ (i := 10) (N := some 58) (v := ?_) (a' := ?_) #[true, true, true, true, true, true, true, true, true, true, true, false, false, false] rfl rfl (any_of HT_.out (by kernel_rfl)) (fun _ _ _ h => h) (Or.inl ⟨by rfl, ?_⟩) ?_ ?_
                                              rotate_left
                                              · intro w'
                                                go_simp
                                                with_reducible rfl
                                              rotate_left
                                              · simp only [Act.put, List.setIfInBounds_toArray, List.set_cons_zero, List.set_cons_succ, i64_w, i32_w]
                                                rfl
                                              refine take_ (i := 11) (N := some 59) (v := ?_) (a' := ?_) #[true, true, true, true, true, true, true, true, true, true, true, true, false, false] rfl rfl (take_ofW HT_.out HW_.out (by kernel_rfl)) (fun _ _ _ h => h) (Or.inl ⟨by rfl, ?_⟩) hHeld ?_ ?_
                                              rotate_left
                                              · rintro w' ⟨s0, s1, s2⟩
                                                go_simp
                                                with_reducible rfl
                                              rotate_left
                                              · simp only [Act.put, List.setIfInBounds_toArray, List.set_cons_zero, List.set_cons_succ, i64_w, i32_w]
                                                rfl
                                              refine one_ (i := 12) (N := some 60) #[true, true, true, true, true, true, true, true, true, true, true, true, true, false] rfl rfl (one_of HT_.out (by kernel_rfl)) (by decide) (fun K hK => ?_)
                                              refine Go.Proofs.YtffcdglhobdlhaaDoorB.goesv_ Tryd.func9 (by kernel_rfl) rfl #[.slice A212_0 (rd_L1 y203 x10_2).length c212_0, .int .i64 (rd (rd_L1 y203 x9_1) x11_3)] (by rfl) rfl rfl (by (try simp only [List.map_toArray, List.map_cons, List.map_nil]); first | done | rfl | (simp only [List.length_drop, List.length_take]; rfl)) ?_
                                              with_reducible refine (humpyardlaw21_TraceShares_1.calls k3 _ _ (rd_L1 y203 x10_2) (rd (rd_L1 y203 x9_1) x11_3) true _ ?side1 ?side2 A18.out).mono ?_
                                              (case side1 => repeat (first | exact (Kd.C_below HR212_0.out HB.out) | (with_reducible refine Kd.C_alloc ?_ _) | (with_reducible refine Kd.C_drewN ?_ _) | (with_reducible refine Kd.C_drew ?_)))
                                              (case side2 => exact HC212_0.out)
                                              rintro e w' ⟨rfl, ⟨nd, rfl⟩⟩
                                              refine ⟨_, rfl, ?_⟩
                                              refine hK.out _ _ ⟨((HB.out.cell (World.block_lt_of_cell? w _ hw212_0)).trans hw212_0), ((HB.out.cell (World.block_lt_of_cell? w _ hw213_0)).trans hw213_0), ((HB.out.cell (World.block_lt_of_cell? w _ hw214_0)).trans hw214_0)⟩ (fun hHeld => ?_)
                                              clear hK K
                                              refine norm_ (a' := ?_) ?_ ?_
                                              rotate_left
                                              · show Act.put _ (some 60) _ = _
                                                simp only [Act.put, List.setIfInBounds_toArray, List.set_cons_zero, List.set_cons_succ, i64_w, i32_w]
                                                rfl
                                              refine pure_ (i := 13) (N := some 61) (v := ?_) (a' := ?_) #[true, true, true, true, true, true, true, true, true, true, true, true, true, true] rfl rfl (any_of HT_.out (by kernel_rfl)) (fun _ _ _ h => h) (Or.inl ⟨by rfl, ?_⟩) ?_ ?_
                                              rotate_left
                                              · intro w'
                                                go_simp
                                                with_reducible rfl
                                              rotate_left
                                              · simp only [Act.put, List.setIfInBounds_toArray, List.set_cons_zero, List.set_cons_succ, i64_w, i32_w]
                                                rfl
                                              refine done_ (done_of HT_.out (by kernel_rfl)) ?_
                                              try go_wp2
                                              go_roundg k3
                                              case measure => have := HK1.out; have := HK2.out; have := HK3.out; omega
                                              case rel => exact ⟨(wrap64 (x11_3 + 1)), (by first | rfl | (simp; done) | (simp [*]; done)), H', ⟨by have := HK1.out; have := HK2.out; have := HK3.out; omega⟩, ⟨by repeat (first | (with_reducible first | exact HB.out | apply below_alloc | apply pw_below_drewN | apply below_drew1) | exact HB.out)⟩⟩
                                        · rw [if_neg c23] at H
                                          have c23b0 : (x9_1 == t207) = false := beq_eq_false_iff_ne.mpr c23
                                          have c23b1 : (x9_1 != t207) = true := bne_iff_ne.mpr c23
                                          have H' := Aside0.mk H
                                          clear H
                                          have p211 : 0 ≤ (x9_1 : Int) := of_decide_eq_true (by first | (with_reducible assumption) | assumption)
                                          have q211 : x9_1 < (y203.length : Int) := of_decide_eq_true (by first | (with_reducible assumption) | assumption)
                                          obtain ⟨ad211, A211_0, c211_0, e211, hx211_0, hl211_0, hi211_0⟩ := at_L1 HR206.out x9_1 p211 q211
                                          cases e211
                                          replace hx211_0 := (HB.out.cell (World.block_lt_of_cell? w _ hx211_0)).trans hx211_0
                                          have HR211_0 := Aside0.mk hi211_0
                                          have HC211_0 := Aside0.mk hl211_0
                                          clear hi211_0 hl211_0
                                          replace p211 := eq_true p211
                                          replace q211 := eq_true q211
                                          try go_wp2
                                          have n0_ := Aside0.mk (below_drew1 HB.out)
                                          clear HB
                                          have HB := n0_
                                          clear n0_
                                          have p212 : 0 ≤ (x10_2 : Int) := of_decide_eq_true (by first | (with_reducible assumption) | assumption)
                                          have q212 : x10_2 < (y203.length : Int) := of_decide_eq_true (by first | (with_reducible assumption) | assumption)
                                          obtain ⟨ad212, A212_0, c212_0, e212, hx212_0, hl212_0, hi212_0⟩ := at_L1 HR206.out x10_2 p212 q212
                                          have hw212_0 := hx212_0
                                          obtain rfl : ad211 = ad212 := (by injection e212)
                                          replace hx212_0 := (HB.out.cell (World.block_lt_of_cell? w _ hx212_0)).trans hx212_0
                                          have HR212_0 := Aside0.mk hi212_0
                                          have HC212_0 := Aside0.mk hl212_0
                                          clear hi212_0 hl212_0
                                          replace p212 := eq_true p212
                                          replace q212 := eq_true q212
                                          have p213 : 0 ≤ (x9_1 : Int) := of_decide_eq_true (by first | (with_reducible assumption) | assumption)
                                          have q213 : x9_1 < (y203.length : Int) := of_decide_eq_true (by first | (with_reducible assumption) | assumption)
                                          obtain ⟨ad213, A213_0, c213_0, e213, hx213_0, hl213_0, hi213_0⟩ := at_L1 HR206.out x9_1 p213 q213
                                          have hw213_0 := hx213_0
                                          obtain rfl : ad211 = ad213 := (by injection e213)
                                          replace hx213_0 := (HB.out.cell (World.block_lt_of_cell? w _ hx213_0)).trans hx213_0
                                          have HR213_0 := Aside0.mk hi213_0
                                          have HC213_0 := Aside0.mk hl213_0
                                          clear hi213_0 hl213_0
                                          replace p213 := eq_true p213
                                          replace q213 := eq_true q213
                                          have p214 : 0 ≤ (x11_3 : Int) := of_decide_eq_true (by first | (with_reducible assumption) | assumption)
                                          have q214 : x11_3 < ((rd_L1 y203 x9_1).length : Int) := of_decide_eq_true (by first | (with_reducible assumption) | assumption)
                                          obtain ⟨ad214, e214, hx214_0⟩ := Kd.at_int HR213_0.out x11_3 p214 q214
                                          have hw214_0 := hx214_0
                                          cases e214
                                          replace hx214_0 := (HB.out.cell (World.block_lt_of_cell? w _ hx214_0)).trans hx214_0
                                          replace p214 := eq_true p214
                                          replace q214 := eq_true q214
                                          refine start_ (n := 14) (S := fun w' => w'.cell? (ad211.add (x10_2).toNat) = some (.slice A212_0 (rd_L1 y203 x10_2).length c212_0) ∧ w'.cell? (ad211.add (x9_1).toNat) = some (.slice (some ad214) (rd_L1 y203 x9_1).length c213_0) ∧ w'.cell? (ad214.add (x11_3).toNat) = some (.int .i64 (rd (rd_L1 y203 x9_1) x11_3))) (ds := []) #[false, false, false, false, false, false, false, false, false, false, false, false, false, false] (by kernel_rfl) rfl rfl ⟨((HB.out.cell (World.block_lt_of_cell? w _ hw212_0)).trans hw212_0), ((HB.out.cell (World.block_lt_of_cell? w _ hw213_0)).trans hw213_0), ((HB.out.cell (World.block_lt_of_cell? w _ hw214_0)).trans hw214_0)⟩ (fun hHeld => ?_); refine with_tabW humpyardlaw21_TraceShares.tab14 humpyardlaw21_TraceShares.bits14 (fun HT_ HW_ => ?_)
                                          generalize wr.drew = w31 at HB HR212_0 HR213_0 hx212_0 hx213_0 hx214_0 hHeld ⊢
                                          refine pure_ (i := 0) (N := some 48) (v := ?_) (a' := ?_) #[true, false, false, false, false, false, false, false, false, false, false, false, false, false] rfl rfl (any_of HT_.out (by kernel_rfl)) (fun _ _ _ h => h) (Or.inl ⟨by rfl, ?_⟩) ?_ ?_
                                          rotate_left
                                          · intro w'
                                            go_simp
                                            with_reducible rfl
                                          rotate_left
                                          · simp only [Act.put, List.setIfInBounds_toArray, List.set_cons_zero, List.set_cons_succ, i64_w, i32_w]
                                            rfl
                                          refine pure_ (i := 1) (N := some 49) (v := ?_) (a' := ?_) #[true, true, false, false, false, false, false, false, false, false, false, false, false, false] rfl rfl (any_of HT_.out (by kernel_rfl)) (fun _ _ _ h => h) (Or.inl ⟨by rfl, ?_⟩) ?_ ?_
                                          rotate_left
                                          · intro w'
                                            go_simp
                                            with_reducible rfl
                                          rotate_left
                                          · simp only [Act.put, List.setIfInBounds_toArray, List.set_cons_zero, List.set_cons_succ, i64_w, i32_w]
                                            rfl
                                          refine pure_ (i := 2) (N := some 50) (v := ?_) (a' := ?_) #[true, true, true, false, false, false, false, false, false, false, false, false, false, false] rfl rfl (any_of HT_.out (by kernel_rfl)) (fun _ _ _ h => h) (Or.inl ⟨by rfl, ?_⟩) ?_ ?_
                                          rotate_left
                                          · intro w'
                                            go_simp
                                            with_reducible rfl
                                          rotate_left
                                          · simp only [Act.put, List.setIfInBounds_toArray, List.set_cons_zero, List.set_cons_succ, i64_w, i32_w]
                                            rfl
                                          refine pure_ (i := 3) (N := some 51) (v := ?_) (a' := ?_) #[true, true, true, true, false, false, false, false, false, false, false, false, false, false] rfl rfl (any_of HT_.out (by kernel_rfl)) (fun _ _ _ h => h) (Or.inl ⟨by rfl, ?_⟩) ?_ ?_
                                          rotate_left
                                          · intro w'
                                            go_simp
                                            with_reducible rfl
                                          rotate_left
                                          · simp only [Act.put, List.setIfInBounds_toArray, List.set_cons_zero, List.set_cons_succ, i64_w, i32_w]
                                            rfl
                                          refine pure_ (i := 5) (N := some 53) (v := ?_) (a' := ?_) #[true, true, true, true, false, true, false, false, false, false, false, false, false, false] rfl rfl (any_of HT_.out (by kernel_rfl)) (fun _ _ _ h => h) (Or.inl ⟨by rfl, ?_⟩) ?_ ?_
                                          rotate_left
                                          · intro w'
                                            go_simp
                                            with_reducible rfl
                                          rotate_left
                                          · simp only [Act.put, List.setIfInBounds_toArray, List.set_cons_zero, List.set_cons_succ, i64_w, i32_w]
                                            rfl
                                          refine pure_ (i := 6) (N := some 54) (v := ?_) (a' := ?_) #[true, true, true, true, false, true, true, false, false, false, false, false, false, false] rfl rfl (any_of HT_.out (by kernel_rfl)) (fun _ _ _ h => h) (Or.inl ⟨by rfl, ?_⟩) ?_ ?_
                                          rotate_left
                                          · intro w'
                                            go_simp
                                            with_reducible rfl
                                          rotate_left
                                          · simp only [Act.put, List.setIfInBounds_toArray, List.set_cons_zero, List.set_cons_succ, i64_w, i32_w]
                                            rfl
                                          refine pure_ (i := 7) (N := some 55) (v := ?_) (a' := ?_) #[true, true, true, true, false, true, true, true, false, false, false, false, false, false] rfl rfl (any_of HT_.out (by kernel_rfl)) (fun _ _ _ h => h) (Or.inl ⟨by rfl, ?_⟩) ?_ ?_
                                          rotate_left
                                          · intro w'
                                            go_simp
                                            with_reducible rfl
                                          rotate_left
                                          · simp only [Act.put, List.setIfInBounds_toArray, List.set_cons_zero, List.set_cons_succ, i64_w, i32_w]
                                            rfl
                                          refine pure_ (i := 9) (N := some 57) (v := ?_) (a' := ?_) #[true, true, true, true, false, true, true, true, false, true, false, false, false, false] rfl rfl (any_of HT_.out (by kernel_rfl)) (fun _ _ _ h => h) (Or.inl ⟨by rfl, ?_⟩) ?_ ?_
                                          rotate_left
                                          · intro w'
                                            go_simp
                                            with_reducible rfl
                                          rotate_left
                                          · simp only [Act.put, List.setIfInBounds_toArray, List.set_cons_zero, List.set_cons_succ, i64_w, i32_w]
                                            rfl
                                          refine take_ (i := 4) (N := some 52) (v := ?_) (a' := ?_) #[true, true, true, true, true, true, true, true, false, true, false, false, false, false] rfl rfl (take_ofW HT_.out HW_.out (by kernel_rfl)) (fun _ _ _ h => h) (Or.inl ⟨by rfl, ?_⟩) hHeld ?_ ?_
                                          rotate_left
                                          · rintro w' ⟨s0, s1, s2⟩
                                            go_simp
                                            with_reducible rfl
                                          rotate_left
                                          · simp only [Act.put, List.setIfInBounds_toArray, List.set_cons_zero, List.set_cons_succ, i64_w, i32_w]
                                            rfl
                                          refine take_ (i := 8) (N := some 56) (v := ?_) (a' := ?_) #[true, true, true, true, true, true, true, true, true, true, false, false, false, false] rfl rfl (take_ofW HT_.out HW_.out (by kernel_rfl)) (fun _ _ _ h => h) (Or.inl ⟨by rfl, ?_⟩) hHeld ?_ ?_
                                          rotate_left
                                          · rintro w' ⟨s0, s1, s2⟩
                                            go_simp
                                            with_reducible rfl
                                          rotate_left
                                          · simp only [Act.put, List.setIfInBounds_toArray, List.set_cons_zero, List.set_cons_succ, i64_w, i32_w]
                                            rfl
                                          refine pure_ (i := 10) (N := some 58) (v := ?_) (a' := ?_) #[true, true, true, true, true, true, true, true, true, true, true, false, false, false] rfl rfl (any_of HT_.out (by kernel_rfl)) (fun _ _ _ h => h) (Or.inl ⟨by rfl, ?_⟩) ?_ ?_
                                          rotate_left
                                          · intro w'
                                            go_simp
                                            with_reducible rfl
                                          rotate_left
                                          · simp only [Act.put, List.setIfInBounds_toArray, List.set_cons_zero, List.set_cons_succ, i64_w, i32_w]
                                            rfl
                                          refine take_ (i := 11) (N := some 59) (v := ?_) (a' := ?_) #[true, true, true, true, true, true, true, true, true, true, true, true, false, false] rfl rfl (take_ofW HT_.out HW_.out (by kernel_rfl)) (fun _ _ _ h => h) (Or.inl ⟨by rfl, ?_⟩) hHeld ?_ ?_
                                          rotate_left
                                          · rintro w' ⟨s0, s1, s2⟩
                                            go_simp
                                            with_reducible rfl
                                          rotate_left
                                          · simp only [Act.put, List.setIfInBounds_toArray, List.set_cons_zero, List.set_cons_succ, i64_w, i32_w]
                                            rfl
                                          refine one_ (i := 12) (N := some 60) #[true, true, true, true, true, true, true, true, true, true, true, true, true, false] rfl rfl (one_of HT_.out (by kernel_rfl)) (by decide) (fun K hK => ?_)
                                          refine Go.Proofs.YtffcdglhobdlhaaDoorB.goesv_ Tryd.func9 (by kernel_rfl) rfl #[.slice A212_0 (rd_L1 y203 x10_2).length c212_0, .int .i64 (rd (rd_L1 y203 x9_1) x11_3)] (by rfl) rfl rfl (by (try simp only [List.map_toArray, List.map_cons, List.map_nil]); first | done | rfl | (simp only [List.length_drop, List.length_take]; rfl)) ?_
                                          with_reducible refine (humpyardlaw21_TraceShares_1.calls k3 _ _ (rd_L1 y203 x10_2) (rd (rd_L1 y203 x9_1) x11_3) true _ ?side1 ?side2 A18.out).mono ?_
                                          (case side1 => repeat (first | exact (Kd.C_below HR212_0.out HB.out) | (with_reducible refine Kd.C_alloc ?_ _) | (with_reducible refine Kd.C_drewN ?_ _) | (with_reducible refine Kd.C_drew ?_)))
                                          (case side2 => exact HC212_0.out)
                                          rintro e w' ⟨rfl, ⟨nd, rfl⟩⟩
                                          refine ⟨_, rfl, ?_⟩
                                          refine hK.out _ _ ⟨((HB.out.cell (World.block_lt_of_cell? w _ hw212_0)).trans hw212_0), ((HB.out.cell (World.block_lt_of_cell? w _ hw213_0)).trans hw213_0), ((HB.out.cell (World.block_lt_of_cell? w _ hw214_0)).trans hw214_0)⟩ (fun hHeld => ?_)
                                          clear hK K
                                          refine norm_ (a' := ?_) ?_ ?_
                                          rotate_left
                                          · show Act.put _ (some 60) _ = _
                                            simp only [Act.put, List.setIfInBounds_toArray, List.set_cons_zero, List.set_cons_succ, i64_w, i32_w]
                                            rfl
                                          refine pure_ (i := 13) (N := some 61) (v := ?_) (a' := ?_) #[true, true, true, true, true, true, true, true, true, true, true, true, true, true] rfl rfl (any_of HT_.out (by kernel_rfl)) (fun _ _ _ h => h) (Or.inl ⟨by rfl, ?_⟩) ?_ ?_
                                          rotate_left
                                          · intro w'
                                            go_simp
                                            with_reducible rfl
                                          rotate_left
                                          · simp only [Act.put, List.setIfInBounds_toArray, List.set_cons_zero, List.set_cons_succ, i64_w, i32_w]
                                            rfl
                                          refine done_ (done_of HT_.out (by kernel_rfl)) ?_
                                          try go_wp2
                                          go_roundg k3
                                          case measure => have := HK1.out; have := HK2.out; have := HK3.out; omega
                                          case rel => exact ⟨(wrap64 (x11_3 + 1)), (by first | rfl | (simp; done) | (simp [*]; done)), H', ⟨by have := HK1.out; have := HK2.out; have := HK3.out; omega⟩, ⟨by repeat (first | (with_reducible first | exact HB.out | apply below_alloc | apply pw_below_drewN | apply below_drew1) | exact HB.out)⟩⟩
                                    · replace c20 := Bool.eq_false_iff.mpr c20
                                      subst c20
                                      have H1 : (some false) = some r := by rw [if_neg (show ¬ (false = true) by decide)] at H; exact H
                                      clear H
                                      have H := H1
                                      clear H1
                                      obtain rfl := Option.some.inj H
                                      have p211 : 0 ≤ (x9_1 : Int) := of_decide_eq_true (by first | (with_reducible assumption) | assumption)
                                      have q211 : x9_1 < (y203.length : Int) := of_decide_eq_true (by first | (with_reducible assumption) | assumption)
                                      obtain ⟨ad211, A211_0, c211_0, e211, hx211_0, hl211_0, hi211_0⟩ := at_L1 HR206.out x9_1 p211 q211
                                      cases e211
                                      replace hx211_0 := (HB.out.cell (World.block_lt_of_cell? w _ hx211_0)).trans hx211_0
                                      have HR211_0 := Aside0.mk hi211_0
                                      have HC211_0 := Aside0.mk hl211_0
                                      clear hi211_0 hl211_0
                                      replace p211 := eq_true p211
                                      replace q211 := eq_true q211
                                      try go_wp2
                                      have n0_ := Aside0.mk (below_drew1 HB.out)
                                      clear HB
                                      have HB := n0_
                                      clear n0_
                                      have p212 : 0 ≤ (x10_2 : Int) := of_decide_eq_true (by first | (with_reducible assumption) | assumption)
                                      have q212 : x10_2 < (y203.length : Int) := of_decide_eq_true (by first | (with_reducible assumption) | assumption)
                                      obtain ⟨ad212, A212_0, c212_0, e212, hx212_0, hl212_0, hi212_0⟩ := at_L1 HR206.out x10_2 p212 q212
                                      have hw212_0 := hx212_0
                                      obtain rfl : ad211 = ad212 := (by injection e212)
                                      replace hx212_0 := (HB.out.cell (World.block_lt_of_cell? w _ hx212_0)).trans hx212_0
                                      have HR212_0 := Aside0.mk hi212_0
                                      have HC212_0 := Aside0.mk hl212_0
                                      clear hi212_0 hl212_0
                                      replace p212 := eq_true p212
                                      replace q212 := eq_true q212
                                      have p213 : 0 ≤ (x9_1 : Int) := of_decide_eq_true (by first | (with_reducible assumption) | assumption)
                                      have q213 : x9_1 < (y203.length : Int) := of_decide_eq_true (by first | (with_reducible assumption) | assumption)
                                      obtain ⟨ad213, A213_0, c213_0, e213, hx213_0, hl213_0, hi213_0⟩ := at_L1 HR206.out x9_1 p213 q213
                                      have hw213_0 := hx213_0
                                      obtain rfl : ad211 = ad213 := (by injection e213)
                                      replace hx213_0 := (HB.out.cell (World.block_lt_of_cell? w _ hx213_0)).trans hx213_0
                                      have HR213_0 := Aside0.mk hi213_0
                                      have HC213_0 := Aside0.mk hl213_0
                                      clear hi213_0 hl213_0
                                      replace p213 := eq_true p213
                                      replace q213 := eq_true q213
                                      have p214 : 0 ≤ (x11_3 : Int) := of_decide_eq_true (by first | (with_reducible assumption) | assumption)
                                      have q214 : x11_3 < ((rd_L1 y203 x9_1).length : Int) := of_decide_eq_true (by first | (with_reducible assumption) | assumption)
                                      obtain ⟨ad214, e214, hx214_0⟩ := Kd.at_int HR213_0.out x11_3 p214 q214
                                      have hw214_0 := hx214_0
                                      cases e214
                                      replace hx214_0 := (HB.out.cell (World.block_lt_of_cell? w _ hx214_0)).trans hx214_0
                                      replace p214 := eq_true p214
                                      replace q214 := eq_true q214
                                      refine start_ (n := 14) (S := fun w' => w'.cell? (ad211.add (x10_2).toNat) = some (.slice A212_0 (rd_L1 y203 x10_2).length c212_0) ∧ w'.cell? (ad211.add (x9_1).toNat) = some (.slice (some ad214) (rd_L1 y203 x9_1).length c213_0) ∧ w'.cell? (ad214.add (x11_3).toNat) = some (.int .i64 (rd (rd_L1 y203 x9_1) x11_3))) (ds := []) #[false, false, false, false, false, false, false, false, false, false, false, false, false, false] (by kernel_rfl) rfl rfl ⟨((HB.out.cell (World.block_lt_of_cell? w _ hw212_0)).trans hw212_0), ((HB.out.cell (World.block_lt_of_cell? w _ hw213_0)).trans hw213_0), ((HB.out.cell (World.block_lt_of_cell? w _ hw214_0)).trans hw214_0)⟩ (fun hHeld => ?_); refine with_tabW humpyardlaw21_TraceShares.tab14 humpyardlaw21_TraceShares.bits14 (fun HT_ HW_ => ?_)
                                      generalize wr.drew = w32 at HB HR212_0 HR213_0 hx212_0 hx213_0 hx214_0 hHeld ⊢
                                      refine pure_ (i := 0) (N := some 48) (v := ?_) (a' := ?_) #[true, false, false, false, false, false, false, false, false, false, false, false, false, false] rfl rfl (any_of HT_.out (by kernel_rfl)) (fun _ _ _ h => h) (Or.inl ⟨by rfl, ?_⟩) ?_ ?_
                                      rotate_left
                                      · intro w'
                                        go_simp
                                        with_reducible rfl
                                      rotate_left
                                      · simp only [Act.put, List.setIfInBounds_toArray, List.set_cons_zero, List.set_cons_succ, i64_w, i32_w]
                                        rfl
                                      refine pure_ (i := 1) (N := some 49) (v := ?_) (a' := ?_) #[true, true, false, false, false, false, false, false, false, false, false, false, false, false] rfl rfl (any_of HT_.out (by kernel_rfl)) (fun _ _ _ h => h) (Or.inl ⟨by rfl, ?_⟩) ?_ ?_
                                      rotate_left
                                      · intro w'
                                        go_simp
                                        with_reducible rfl
                                      rotate_left
                                      · simp only [Act.put, List.setIfInBounds_toArray, List.set_cons_zero, List.set_cons_succ, i64_w, i32_w]
                                        rfl
                                      refine pure_ (i := 2) (N := some 50) (v := ?_) (a' := ?_) #[true, true, true, false, false, false, false, false, false, false, false, false, false, false] rfl rfl (any_of HT_.out (by kernel_rfl)) (fun _ _ _ h => h) (Or.inl ⟨by rfl, ?_⟩) ?_ ?_
                                      rotate_left
                                      · intro w'
                                        go_simp
                                        with_reducible rfl
                                      rotate_left
                                      · simp only [Act.put, List.setIfInBounds_toArray, List.set_cons_zero, List.set_cons_succ, i64_w, i32_w]
                                        rfl
                                      refine pure_ (i := 3) (N := some 51) (v := ?_) (a' := ?_) #[true, true, true, true, false, false, false, false, false, false, false, false, false, false] rfl rfl (any_of HT_.out (by kernel_rfl)) (fun _ _ _ h => h) (Or.inl ⟨by rfl, ?_⟩) ?_ ?_
                                      rotate_left
                                      · intro w'
                                        go_simp
                                        with_reducible rfl
                                      rotate_left
                                      · simp only [Act.put, List.setIfInBounds_toArray, List.set_cons_zero, List.set_cons_succ, i64_w, i32_w]
                                        rfl
                                      refine pure_ (i := 5) (N := some 53) (v := ?_) (a' := ?_) #[true, true, true, true, false, true, false, false, false, false, false, false, false, false] rfl rfl (any_of HT_.out (by kernel_rfl)) (fun _ _ _ h => h) (Or.inl ⟨by rfl, ?_⟩) ?_ ?_
                                      rotate_left
                                      · intro w'
                                        go_simp
                                        with_reducible rfl
                                      rotate_left
                                      · simp only [Act.put, List.setIfInBounds_toArray, List.set_cons_zero, List.set_cons_succ, i64_w, i32_w]
                                        rfl
                                      refine pure_ (i := 6) (N := some 54) (v := ?_) (a' := ?_) #[true, true, true, true, false, true, true, false, false, false, false, false, false, false] rfl rfl (any_of HT_.out (by kernel_rfl)) (fun _ _ _ h => h) (Or.inl ⟨by rfl, ?_⟩) ?_ ?_
                                      rotate_left
                                      · intro w'
                                        go_simp
                                        with_reducible rfl
                                      rotate_left
                                      · simp only [Act.put, List.setIfInBounds_toArray, List.set_cons_zero, List.set_cons_succ, i64_w, i32_w]
                                        rfl
                                      refine pure_ (i := 7) (N := some 55) (v := ?_) (a' := ?_) #[true, true, true, true, false, true, true, true, false, false, false, false, false, false] rfl rfl (any_of HT_.out (by kernel_rfl)) (fun _ _ _ h => h) (Or.inl ⟨by rfl, ?_⟩) ?_ ?_
                                      rotate_left
                                      · intro w'
                                        go_simp
                                        with_reducible rfl
                                      rotate_left
                                      · simp only [Act.put, List.setIfInBounds_toArray, List.set_cons_zero, List.set_cons_succ, i64_w, i32_w]
                                        rfl
                                      refine pure_ (i := 9) (N := some 57) (v := ?_) (a' := ?_) #[true, true, true, true, false, true, true, true, false, true, false, false, false, false] rfl rfl (any_of HT_.out (by kernel_rfl)) (fun _ _ _ h => h) (Or.inl ⟨by rfl, ?_⟩) ?_ ?_
                                      rotate_left
                                      · intro w'
                                        go_simp
                                        with_reducible rfl
                                      rotate_left
                                      · simp only [Act.put, List.setIfInBounds_toArray, List.set_cons_zero, List.set_cons_succ, i64_w, i32_w]
                                        rfl
                                      refine take_ (i := 4) (N := some 52) (v := ?_) (a' := ?_) #[true, true, true, true, true, true, true, true, false, true, false, false, false, false] rfl rfl (take_ofW HT_.out HW_.out (by kernel_rfl)) (fun _ _ _ h => h) (Or.inl ⟨by rfl, ?_⟩) hHeld ?_ ?_
                                      rotate_left
                                      · rintro w' ⟨s0, s1, s2⟩
                                        go_simp
                                        with_reducible rfl
                                      rotate_left
                                      · simp only [Act.put, List.setIfInBounds_toArray, List.set_cons_zero, List.set_cons_succ, i64_w, i32_w]
                                        rfl
                                      refine take_ (i := 8) (N := some 56) (v := ?_) (a' := ?_) #[true, true, true, true, true, true, true, true, true, true, false, false, false, false] rfl rfl (take_ofW HT_.out HW_.out (by kernel_rfl)) (fun _ _ _ h => h) (Or.inl ⟨by rfl, ?_⟩) hHeld ?_ ?_
                                      rotate_left
                                      · rintro w' ⟨s0, s1, s2⟩
                                        go_simp
                                        with_reducible rfl
                                      rotate_left
                                      · simp only [Act.put, List.setIfInBounds_toArray, List.set_cons_zero, List.set_cons_succ, i64_w, i32_w]
                                        rfl
                                      refine pure_ (i := 10) (N := some 58) (v := ?_) (a' := ?_) #[true, true, true, true, true, true, true, true, true, true, true, false, false, false] rfl rfl (any_of HT_.out (by kernel_rfl)) (fun _ _ _ h => h) (Or.inl ⟨by rfl, ?_⟩) ?_ ?_
                                      rotate_left
                                      · intro w'
                                        go_simp
                                        with_reducible rfl
                                      rotate_left
                                      · simp only [Act.put, List.setIfInBounds_toArray, List.set_cons_zero, List.set_cons_succ, i64_w, i32_w]
                                        rfl
                                      refine take_ (i := 11) (N := some 59) (v := ?_) (a' := ?_) #[true, true, true, true, true, true, true, true, true, true, true, true, false, false] rfl rfl (take_ofW HT_.out HW_.out (by kernel_rfl)) (fun _ _ _ h => h) (Or.inl ⟨by rfl, ?_⟩) hHeld ?_ ?_
                                      rotate_left
                                      · rintro w' ⟨s0, s1, s2⟩
                                        go_simp
                                        with_reducible rfl
                                      rotate_left
                                      · simp only [Act.put, List.setIfInBounds_toArray, List.set_cons_zero, List.set_cons_succ, i64_w, i32_w]
                                        rfl
                                      refine one_ (i := 12) (N := some 60) #[true, true, true, true, true, true, true, true, true, true, true, true, true, false] rfl rfl (one_of HT_.out (by kernel_rfl)) (by decide) (fun K hK => ?_)
                                      refine Go.Proofs.YtffcdglhobdlhaaDoorB.goesv_ Tryd.func9 (by kernel_rfl) rfl #[.slice A212_0 (rd_L1 y203 x10_2).length c212_0, .int .i64 (rd (rd_L1 y203 x9_1) x11_3)] (by rfl) rfl rfl (by (try simp only [List.map_toArray, List.map_cons, List.map_nil]); first | done | rfl | (simp only [List.length_drop, List.length_take]; rfl)) ?_
                                      with_reducible refine (humpyardlaw21_TraceShares_1.calls k3 _ _ (rd_L1 y203 x10_2) (rd (rd_L1 y203 x9_1) x11_3) true _ ?side1 ?side2 A18.out).mono ?_
                                      (case side1 => repeat (first | exact (Kd.C_below HR212_0.out HB.out) | (with_reducible refine Kd.C_alloc ?_ _) | (with_reducible refine Kd.C_drewN ?_ _) | (with_reducible refine Kd.C_drew ?_)))
                                      (case side2 => exact HC212_0.out)
                                      rintro e w' ⟨rfl, ⟨nd, rfl⟩⟩
                                      refine ⟨_, rfl, ?_⟩
                                      refine hK.out _ _ ⟨((HB.out.cell (World.block_lt_of_cell? w _ hw212_0)).trans hw212_0), ((HB.out.cell (World.block_lt_of_cell? w _ hw213_0)).trans hw213_0), ((HB.out.cell (World.block_lt_of_cell? w _ hw214_0)).trans hw214_0)⟩ (fun hHeld => ?_)
                                      clear hK K
                                      refine norm_ (a' := ?_) ?_ ?_
                                      rotate_left
                                      · show Act.put _ (some 60) _ = _
                                        simp only [Act.put, List.setIfInBounds_toArray, List.set_cons_zero, List.set_cons_succ, i64_w, i32_w]
                                        rfl
                                      refine pure_ (i := 13) (N := some 61) (v := ?_) (a' := ?_) #[true, true, true, true, true, true, true, true, true, true, true, true, true, true] rfl rfl (any_of HT_.out (by kernel_rfl)) (fun _ _ _ h => h) (Or.inl ⟨by rfl, ?_⟩) ?_ ?_
                                      rotate_left
                                      · intro w'
                                        go_simp
                                        with_reducible rfl
                                      rotate_left
                                      · simp only [Act.put, List.setIfInBounds_toArray, List.set_cons_zero, List.set_cons_succ, i64_w, i32_w]
                                        rfl
                                      refine done_ (done_of HT_.out (by kernel_rfl)) ?_
                                      try go_wp2
                                      go_ret
                                      exact ⟨by first | rfl | (simp [errW_none, errW_some] <;> rfl) | (simp only [← hji3]; first | rfl | (simp [errW_none, errW_some] <;> rfl)) | (simp [*, errW_none, errW_some] <;> rfl), by repeat (first | (with_reducible first | exact HB.out | apply below_alloc | apply pw_below_drewN | apply below_drew1) | exact HB.out)⟩
                                  · replace c19 := Bool.eq_false_iff.mpr c19
                                    subst c19
                                    have H1 : (humpyardlaw21_TraceShares.l2 k3 y203 t202 t207 t208 t209 t210 x9_1 x10_2 (wrap64 (x11_3 + 1))) = some r := by rw [if_neg (show ¬ (false = true) by decide)] at H; exact H
                                    clear H
                                    have H := H1
                                    clear H1
                                    have H' := Aside0.mk H
                                    clear H
                                    have p211 : 0 ≤ (x9_1 : Int) := of_decide_eq_true (by first | (with_reducible assumption) | assumption)
                                    have q211 : x9_1 < (y203.length : Int) := of_decide_eq_true (by first | (with_reducible assumption) | assumption)
                                    obtain ⟨ad211, A211_0, c211_0, e211, hx211_0, hl211_0, hi211_0⟩ := at_L1 HR206.out x9_1 p211 q211
                                    cases e211
                                    replace hx211_0 := (HB.out.cell (World.block_lt_of_cell? w _ hx211_0)).trans hx211_0
                                    have HR211_0 := Aside0.mk hi211_0
                                    have HC211_0 := Aside0.mk hl211_0
                                    clear hi211_0 hl211_0
                                    replace p211 := eq_true p211
                                    replace q211 := eq_true q211
                                    try go_wp2
                                    have n0_ := Aside0.mk (below_drew1 HB.out)
                                    clear HB
                                    have HB := n0_
                                    clear n0_
                                    have p212 : 0 ≤ (x10_2 : Int) := of_decide_eq_true (by first | (with_reducible assumption) | assumption)
                                    have q212 : x10_2 < (y203.length : Int) := of_decide_eq_true (by first | (with_reducible assumption) | assumption)
                                    obtain ⟨ad212, A212_0, c212_0, e212, hx212_0, hl212_0, hi212_0⟩ := at_L1 HR206.out x10_2 p212 q212
                                    have hw212_0 := hx212_0
                                    obtain rfl : ad211 = ad212 := (by injection e212)
                                    replace hx212_0 := (HB.out.cell (World.block_lt_of_cell? w _ hx212_0)).trans hx212_0
                                    have HR212_0 := Aside0.mk hi212_0
                                    have HC212_0 := Aside0.mk hl212_0
                                    clear hi212_0 hl212_0
                                    replace p212 := eq_true p212
                                    replace q212 := eq_true q212
                                    have p213 : 0 ≤ (x9_1 : Int) := of_decide_eq_true (by first | (with_reducible assumption) | assumption)
                                    have q213 : x9_1 < (y203.length : Int) := of_decide_eq_true (by first | (with_reducible assumption) | assumption)
                                    obtain ⟨ad213, A213_0, c213_0, e213, hx213_0, hl213_0, hi213_0⟩ := at_L1 HR206.out x9_1 p213 q213
                                    have hw213_0 := hx213_0
                                    obtain rfl : ad211 = ad213 := (by injection e213)
                                    replace hx213_0 := (HB.out.cell (World.block_lt_of_cell? w _ hx213_0)).trans hx213_0
                                    have HR213_0 := Aside0.mk hi213_0
                                    have HC213_0 := Aside0.mk hl213_0
                                    clear hi213_0 hl213_0
                                    replace p213 := eq_true p213
                                    replace q213 := eq_true q213
                                    have p214 : 0 ≤ (x11_3 : Int) := of_decide_eq_true (by first | (with_reducible assumption) | assumption)
                                    have q214 : x11_3 < ((rd_L1 y203 x9_1).length : Int) := of_decide_eq_true (by first | (with_reducible assumption) | assumption)
                                    obtain ⟨ad214, e214, hx214_0⟩ := Kd.at_int HR213_0.out x11_3 p214 q214
                                    have hw214_0 := hx214_0
                                    cases e214
                                    replace hx214_0 := (HB.out.cell (World.block_lt_of_cell? w _ hx214_0)).trans hx214_0
                                    replace p214 := eq_true p214
                                    replace q214 := eq_true q214
                                    refine start_ (n := 14) (S := fun w' => w'.cell? (ad211.add (x10_2).toNat) = some (.slice A212_0 (rd_L1 y203 x10_2).length c212_0) ∧ w'.cell? (ad211.add (x9_1).toNat) = some (.slice (some ad214) (rd_L1 y203 x9_1).length c213_0) ∧ w'.cell? (ad214.add (x11_3).toNat) = some (.int .i64 (rd (rd_L1 y203 x9_1) x11_3))) (ds := []) #[false, false, false, false, false, false, false, false, false, false, false, false, false, false] (by kernel_rfl) rfl rfl ⟨((HB.out.cell (World.block_lt_of_cell? w _ hw212_0)).trans hw212_0), ((HB.out.cell (World.block_lt_of_cell? w _ hw213_0)).trans hw213_0), ((HB.out.cell (World.block_lt_of_cell? w _ hw214_0)).trans hw214_0)⟩ (fun hHeld => ?_); refine with_tabW humpyardlaw21_TraceShares.tab14 humpyardlaw21_TraceShares.bits14 (fun HT_ HW_ => ?_)
                                    generalize wr.drew = w33 at HB HR212_0 HR213_0 hx212_0 hx213_0 hx214_0 hHeld ⊢
                                    refine pure_ (i := 0) (N := some 48) (v := ?_) (a' := ?_) #[true, false, false, false, false, false, false, false, false, false, false, false, false, false] rfl rfl (any_of HT_.out (by kernel_rfl)) (fun _ _ _ h => h) (Or.inl ⟨by rfl, ?_⟩) ?_ ?_
                                    rotate_left
                                    · intro w'
                                      go_simp
                                      with_reducible rfl
                                    rotate_left
                                    · simp only [Act.put, List.setIfInBounds_toArray, List.set_cons_zero, List.set_cons_succ, i64_w, i32_w]
                                      rfl
                                    refine pure_ (i := 1) (N := some 49) (v := ?_) (a' := ?_) #[true, true, false, false, false, false, false, false, false, false, false, false, false, false] rfl rfl (any_of HT_.out (by kernel_rfl)) (fun _ _ _ h => h) (Or.inl ⟨by rfl, ?_⟩) ?_ ?_
                                    rotate_left
                                    · intro w'
                                      go_simp
                                      with_reducible rfl
                                    rotate_left
                                    · simp only [Act.put, List.setIfInBounds_toArray, List.set_cons_zero, List.set_cons_succ, i64_w, i32_w]
                                      rfl
                                    refine pure_ (i := 2) (N := some 50) (v := ?_) (a' := ?_) #[true, true, true, false, false, false, false, false, false, false, false, false, false, false] rfl rfl (any_of HT_.out (by kernel_rfl)) (fun _ _ _ h => h) (Or.inl ⟨by rfl, ?_⟩) ?_ ?_
                                    rotate_left
                                    · intro w'
                                      go_simp
                                      with_reducible rfl
                                    rotate_left
                                    · simp only [Act.put, List.setIfInBounds_toArray, List.set_cons_zero, List.set_cons_succ, i64_w, i32_w]
                                      rfl
                                    refine pure_ (i := 3) (N := some 51) (v := ?_) (a' := ?_) #[true, true, true, true, false, false, false, false, false, false, false, false, false, false] rfl rfl (any_of HT_.out (by kernel_rfl)) (fun _ _ _ h => h) (Or.inl ⟨by rfl, ?_⟩) ?_ ?_
                                    rotate_left
                                    · intro w'
                                      go_simp
                                      with_reducible rfl
                                    rotate_left
                                    · simp only [Act.put, List.setIfInBounds_toArray, List.set_cons_zero, List.set_cons_succ, i64_w, i32_w]
                                      rfl
                                    refine pure_ (i := 5) (N := some 53) (v := ?_) (a' := ?_) #[true, true, true, true, false, true, false, false, false, false, false, false, false, false] rfl rfl (any_of HT_.out (by kernel_rfl)) (fun _ _ _ h => h) (Or.inl ⟨by rfl, ?_⟩) ?_ ?_
                                    rotate_left
                                    · intro w'
                                      go_simp
                                      with_reducible rfl
                                    rotate_left
                                    · simp only [Act.put, List.setIfInBounds_toArray, List.set_cons_zero, List.set_cons_succ, i64_w, i32_w]
                                      rfl
                                    refine pure_ (i := 6) (N := some 54) (v := ?_) (a' := ?_) #[true, true, true, true, false, true, true, false, false, false, false, false, false, false] rfl rfl (any_of HT_.out (by kernel_rfl)) (fun _ _ _ h => h) (Or.inl ⟨by rfl, ?_⟩) ?_ ?_
                                    rotate_left
                                    · intro w'
                                      go_simp
                                      with_reducible rfl
                                    rotate_left
                                    · simp only [Act.put, List.setIfInBounds_toArray, List.set_cons_zero, List.set_cons_succ, i64_w, i32_w]
                                      rfl
                                    refine pure_ (i := 7) (N := some 55) (v := ?_) (a' := ?_) #[true, true, true, true, false, true, true, true, false, false, false, false, false, false] rfl rfl (any_of HT_.out (by kernel_rfl)) (fun _ _ _ h => h) (Or.inl ⟨by rfl, ?_⟩) ?_ ?_
                                    rotate_left
                                    · intro w'
                                      go_simp
                                      with_reducible rfl
                                    rotate_left
                                    · simp only [Act.put, List.setIfInBounds_toArray, List.set_cons_zero, List.set_cons_succ, i64_w, i32_w]
                                      rfl
                                    refine pure_ (i := 9) (N := some 57) (v := ?_) (a' := ?_) #[true, true, true, true, false, true, true, true, false, true, false, false, false, false] rfl rfl (any_of HT_.out (by kernel_rfl)) (fun _ _ _ h => h) (Or.inl ⟨by rfl, ?_⟩) ?_ ?_
                                    rotate_left
                                    · intro w'
                                      go_simp
                                      with_reducible rfl
                                    rotate_left
                                    · simp only [Act.put, List.setIfInBounds_toArray, List.set_cons_zero, List.set_cons_succ, i64_w, i32_w]
                                      rfl
                                    refine take_ (i := 4) (N := some 52) (v := ?_) (a' := ?_) #[true, true, true, true, true, true, true, true, false, true, false, false, false, false] rfl rfl (take_ofW HT_.out HW_.out (by kernel_rfl)) (fun _ _ _ h => h) (Or.inl ⟨by rfl, ?_⟩) hHeld ?_ ?_
                                    rotate_left
                                    · rintro w' ⟨s0, s1, s2⟩
                                      go_simp
                                      with_reducible rfl
                                    rotate_left
                                    · simp only [Act.put, List.setIfInBounds_toArray, List.set_cons_zero, List.set_cons_succ, i64_w, i32_w]
                                      rfl
                                    refine take_ (i := 8) (N := some 56) (v := ?_) (a' := ?_) #[true, true, true, true, true, true, true, true, true, true, false, false, false, false] rfl rfl (take_ofW HT_.out HW_.out (by kernel_rfl)) (fun _ _ _ h => h) (Or.inl ⟨by rfl, ?_⟩) hHeld ?_ ?_
                                    rotate_left
                                    · rintro w' ⟨s0, s1, s2⟩
                                      go_simp
                                      with_reducible rfl
                                    rotate_left
                                    · simp only [Act.put, List.setIfInBounds_toArray, List.set_cons_zero, List.set_cons_succ, i64_w, i32_w]
                                      rfl
                                    refine pure_ (i := 10) (N := some 58) (v := ?_) (a' := ?_) #[true, true, true, true, true, true, true, true, true, true, true, false, false, false] rfl rfl (any_of HT_.out (by kernel_rfl)) (fun _ _ _ h => h) (Or.inl ⟨by rfl, ?_⟩) ?_ ?_
                                    rotate_left
                                    · intro w'
                                      go_simp
                                      with_reducible rfl
                                    rotate_left
                                    · simp only [Act.put, List.setIfInBounds_toArray, List.set_cons_zero, List.set_cons_succ, i64_w, i32_w]
                                      rfl
                                    refine take_ (i := 11) (N := some 59) (v := ?_) (a' := ?_) #[true, true, true, true, true, true, true, true, true, true, true, true, false, false] rfl rfl (take_ofW HT_.out HW_.out (by kernel_rfl)) (fun _ _ _ h => h) (Or.inl ⟨by rfl, ?_⟩) hHeld ?_ ?_
                                    rotate_left
                                    · rintro w' ⟨s0, s1, s2⟩
                                      go_simp
                                      with_reducible rfl
                                    rotate_left
                                    · simp only [Act.put, List.setIfInBounds_toArray, List.set_cons_zero, List.set_cons_succ, i64_w, i32_w]
                                      rfl
                                    refine one_ (i := 12) (N := some 60) #[true, true, true, true, true, true, true, true, true, true, true, true, true, false] rfl rfl (one_of HT_.out (by kernel_rfl)) (by decide) (fun K hK => ?_)
                                    refine Go.Proofs.YtffcdglhobdlhaaDoorB.goesv_ Tryd.func9 (by kernel_rfl) rfl #[.slice A212_0 (rd_L1 y203 x10_2).length c212_0, .int .i64 (rd (rd_L1 y203 x9_1) x11_3)] (by rfl) rfl rfl (by (try simp only [List.map_toArray, List.map_cons, List.map_nil]); first | done | rfl | (simp only [List.length_drop, List.length_take]; rfl)) ?_
                                    with_reducible refine (humpyardlaw21_TraceShares_1.calls k3 _ _ (rd_L1 y203 x10_2) (rd (rd_L1 y203 x9_1) x11_3) false _ ?side1 ?side2 A18.out).mono ?_
                                    (case side1 => repeat (first | exact (Kd.C_below HR212_0.out HB.out) | (with_reducible refine Kd.C_alloc ?_ _) | (with_reducible refine Kd.C_drewN ?_ _) | (with_reducible refine Kd.C_drew ?_)))
                                    (case side2 => exact HC212_0.out)
                                    rintro e w' ⟨rfl, ⟨nd, rfl⟩⟩
                                    refine ⟨_, rfl, ?_⟩
                                    refine hK.out _ _ ⟨((HB.out.cell (World.block_lt_of_cell? w _ hw212_0)).trans hw212_0), ((HB.out.cell (World.block_lt_of_cell? w _ hw213_0)).trans hw213_0), ((HB.out.cell (World.block_lt_of_cell? w _ hw214_0)).trans hw214_0)⟩ (fun hHeld => ?_)
                                    clear hK K
                                    refine norm_ (a' := ?_) ?_ ?_
                                    rotate_left
                                    · show Act.put _ (some 60) _ = _
                                      simp only [Act.put, List.setIfInBounds_toArray, List.set_cons_zero, List.set_cons_succ, i64_w, i32_w]
                                      rfl
                                    refine pure_ (i := 13) (N := some 61) (v := ?_) (a' := ?_) #[true, true, true, true, true, true, true, true, true, true, true, true, true, true] rfl rfl (any_of HT_.out (by kernel_rfl)) (fun _ _ _ h => h) (Or.inl ⟨by rfl, ?_⟩) ?_ ?_
                                    rotate_left
                                    · intro w'
                                      go_simp
                                      with_reducible rfl
                                    rotate_left
                                    · simp only [Act.put, List.setIfInBounds_toArray, List.set_cons_zero, List.set_cons_succ, i64_w, i32_w]
                                      rfl
                                    refine done_ (done_of HT_.out (by kernel_rfl)) ?_
                                    try go_wp2
                                    go_roundg k3
                                    case measure => have := HK1.out; have := HK2.out; have := HK3.out; omega
                                    case rel => exact ⟨(wrap64 (x11_3 + 1)), (by first | rfl | (simp; done) | (simp [*]; done)), H', ⟨by have := HK1.out; have := HK2.out; have := HK3.out; omega⟩, ⟨by repeat (first | (with_reducible first | exact HB.out | apply below_alloc | apply pw_below_drewN | apply below_drew1) | exact HB.out)⟩⟩
                                · rw [if_neg c17] at H
                                  exact absurd H (by simp)
                              · rw [if_neg c16] at H
                                exact absurd H (by simp)
                            · rw [if_neg c15] at H
                              exact absurd H (by simp)
                          · rw [if_neg c14] at H
                            have c14b0 : decide (x11_3 < ((rd_L1 y203 x9_1).length : Int)) = false := decide_eq_false c14
                            clear c14
                            have H' := Aside0.mk H
                            clear H
                            have p211 : 0 ≤ (x9_1 : Int) := of_decide_eq_true (by first | (with_reducible assumption) | assumption)
                            have q211 : x9_1 < (y203.length : Int) := of_decide_eq_true (by first | (with_reducible assumption) | assumption)
                            obtain ⟨ad211, A211_0, c211_0, e211, hx211_0, hl211_0, hi211_0⟩ := at_L1 HR206.out x9_1 p211 q211
                            cases e211
                            replace hx211_0 := (HB.out.cell (World.block_lt_of_cell? w _ hx211_0)).trans hx211_0
                            have HR211_0 := Aside0.mk hi211_0
                            have HC211_0 := Aside0.mk hl211_0
                            clear hi211_0 hl211_0
                            replace p211 := eq_true p211
                            replace q211 := eq_true q211
                            go_wp2
                            go_roundg k3
                            case measure => have := HK1.out; have := HK2.out; have := HK3.out; omega
                            case rel => exact ⟨(wrap64 (x10_2 + 1)), (by first | rfl | (simp; done) | (simp [*]; done)), H', ⟨by have := HK1.out; have := HK2.out; have := HK3.out; omega⟩, ⟨by repeat (first | (with_reducible first | exact HB.out | apply below_alloc | apply pw_below_drewN | apply below_drew1) | exact HB.out)⟩⟩
                        · rw [if_neg c13] at H
                          exact absurd H (by simp)
                      · rw [if_neg c12] at H
                        exact absurd H (by simp)
                · rw [if_neg c11] at H
                  have c11b0 : decide (x10_2 < (y203.length : Int)) = false := decide_eq_false c11
                  clear c11
                  have H' := Aside0.mk H
                  clear H
                  go_wp2
                  go_roundg k2
                  case measure => have := HK1.out; have := HK2.out; omega
                  case rel => exact ⟨(wrap64 (x9_1 + 1)), (by first | rfl | (simp; done) | (simp [*]; done)), H', ⟨by have := HK1.out; have := HK2.out; omega⟩, ⟨by repeat (first | (with_reducible first | exact HB.out | apply below_alloc | apply pw_below_drewN | apply below_drew1) | exact HB.out)⟩⟩
          · rw [if_neg c10] at H
            have c10b0 : decide (x9_1 < (y203.length : Int)) = false := decide_eq_false c10
            clear c10
            by_cases c34 : t210 = true
            · subst c34
              have H1 : (if t202 = true then (if t207 < t208 then (if t208 < (y203.length : Int) then (if 0 ≤ t207 then (if t207 < (y203.length : Int) then ((humpyardlaw21_TraceShares_1.f k1 (rd_L1 y203 t207) t209).bind fun t219 => (if t219 = true then (if 0 ≤ t208 then ((humpyardlaw21_TraceShares_1.f k1 (rd_L1 y203 t208) t209).bind fun t221 => (some t221)) else (none)) else (some false))) else (none)) else (none)) else (some false)) else (some false)) else (some false)) = some r := by rw [if_pos rfl] at H; exact H
              clear H
              have H := H1
              clear H1
              by_cases c35 : t202 = true
              · subst c35
                have H1 : (if t207 < t208 then (if t208 < (y203.length : Int) then (if 0 ≤ t207 then (if t207 < (y203.length : Int) then ((humpyardlaw21_TraceShares_1.f k1 (rd_L1 y203 t207) t209).bind fun t219 => (if t219 = true then (if 0 ≤ t208 then ((humpyardlaw21_TraceShares_1.f k1 (rd_L1 y203 t208) t209).bind fun t221 => (some t221)) else (none)) else (some false))) else (none)) else (none)) else (some false)) else (some false)) = some r := by rw [if_pos rfl] at H; exact H
                clear H
                have H := H1
                clear H1
                by_cases c36 : t207 < t208
                · rw [if_pos c36] at H
                  have c36b0 : decide (t207 < t208) = true := decide_eq_true c36
                  clear c36
                  by_cases c37 : t208 < (y203.length : Int)
                  · rw [if_pos c37] at H
                    have c37b0 : decide (t208 < (y203.length : Int)) = true := decide_eq_true c37
                    clear c37
                    by_cases c38 : 0 ≤ t207
                    · rw [if_pos c38] at H
                      have c38b0 : decide (0 ≤ t207) = true := decide_eq_true c38
                      clear c38
                      by_cases c39 : t207 < (y203.length : Int)
                      · rw [if_pos c39] at H
                        have c39b0 : decide (t207 < (y203.length : Int)) = true := decide_eq_true c39
                        clear c39
                        replace H := Option.bind_eq_some_iff.mp H
                        obtain ⟨t219, A400, H⟩ := H
                        replace H : (if t219 = true then (if 0 ≤ t208 then ((humpyardlaw21_TraceShares_1.f k1 (rd_L1 y203 t208) t209).bind fun t221 => (some t221)) else (none)) else (some false)) = some r := H
                        have A40 := Aside0.mk A400
                        clear A400
                        by_cases c41 : t219 = true
                        · subst c41
                          have H1 : (if 0 ≤ t208 then ((humpyardlaw21_TraceShares_1.f k1 (rd_L1 y203 t208) t209).bind fun t221 => (some t221)) else (none)) = some r := by rw [if_pos rfl] at H; exact H
                          clear H
                          have H := H1
                          clear H1
                          by_cases c42 : 0 ≤ t208
                          · rw [if_pos c42] at H
                            have c42b0 : decide (0 ≤ t208) = true := decide_eq_true c42
                            clear c42
                            replace H := Option.bind_eq_some_iff.mp H
                            obtain ⟨t221, A430, H⟩ := H
                            replace H : (some t221) = some r := H
                            have A43 := Aside0.mk A430
                            clear A430
                            obtain rfl := Option.some.inj H
                            have p218 : 0 ≤ (t207 : Int) := of_decide_eq_true (by first | (with_reducible assumption) | assumption)
                            have q218 : t207 < (y203.length : Int) := of_decide_eq_true (by first | (with_reducible assumption) | assumption)
                            obtain ⟨ad218, A218_0, c218_0, e218, hx218_0, hl218_0, hi218_0⟩ := at_L1 HR206.out t207 p218 q218
                            cases e218
                            replace hx218_0 := (HB.out.cell (World.block_lt_of_cell? w _ hx218_0)).trans hx218_0
                            have HR218_0 := Aside0.mk hi218_0
                            have HC218_0 := Aside0.mk hl218_0
                            clear hi218_0 hl218_0
                            replace p218 := eq_true p218
                            replace q218 := eq_true q218
                            go_wp2_with (first | (go_at_call 9; (with_reducible refine (humpyardlaw21_TraceShares_1.calls k1 _ _ (rd_L1 y203 t207) t209 true _ ?side1 ?side2 A40.out).mono ?_); (case side1 => repeat (first | exact (Kd.C_below HR218_0.out HB.out) | (with_reducible refine Kd.C_alloc ?_ _) | (with_reducible refine Kd.C_drewN ?_ _) | (with_reducible refine Kd.C_drew ?_))); (case side2 => exact HC218_0.out); rintro e w' ⟨rfl, ⟨nd, rfl⟩⟩; have p220 : 0 ≤ (t208 : Int) := of_decide_eq_true (by first | (with_reducible assumption) | assumption); have q220 : t208 < (y203.length : Int) := of_decide_eq_true (by first | (with_reducible assumption) | assumption); obtain ⟨ad220, A220_0, c220_0, e220, hx220_0, hl220_0, hi220_0⟩ := at_L1 HR206.out t208 p220 q220; obtain rfl : ad218 = ad220 := (by injection e220); replace hx220_0 := (HB.out.cell (World.block_lt_of_cell? w _ hx220_0)).trans hx220_0; have HR220_0 := Aside0.mk hi220_0; have HC220_0 := Aside0.mk hl220_0; clear hi220_0 hl220_0; replace p220 := eq_true p220; replace q220 := eq_true q220) | (go_at_call 9; (with_reducible refine (humpyardlaw21_TraceShares_1.calls k1 _ _ (rd_L1 y203 t208) t209 t221 _ ?side1 ?side2 A43.out).mono ?_); (case side1 => repeat (first | exact (Kd.C_below HR220_0.out (by repeat (first | (with_reducible first | exact HB.out | apply below_alloc | apply pw_below_drewN | apply below_drew1) | exact HB.out))) | (with_reducible refine Kd.C_alloc ?_ _) | (with_reducible refine Kd.C_drewN ?_ _) | (with_reducible refine Kd.C_drew ?_))); (case side2 => exact HC220_0.out); rintro e w' ⟨rfl, ⟨nd, rfl⟩⟩))
                            go_ret
                            exact ⟨by first | rfl | (simp [errW_none, errW_some] <;> rfl) | (simp only [← hji3]; first | rfl | (simp [errW_none, errW_some] <;> rfl)) | (simp [*, errW_none, errW_some] <;> rfl), by repeat (first | (with_reducible first | exact HB.out | apply below_alloc | apply pw_below_drewN | apply below_drew1) | exact HB.out)⟩
                          · rw [if_neg c42] at H
                            exact absurd H (by simp)
                        · replace c41 := Bool.eq_false_iff.mpr c41
                          subst c41
                          have H1 : (some false) = some r := by rw [if_neg (show ¬ (false = true) by decide)] at H; exact H
                          clear H
                          have H := H1
                          clear H1
                          obtain rfl := Option.some.inj H
                          have p218 : 0 ≤ (t207 : Int) := of_decide_eq_true (by first | (with_reducible assumption) | assumption)
                          have q218 : t207 < (y203.length : Int) := of_decide_eq_true (by first | (with_reducible assumption) | assumption)
                          obtain ⟨ad218, A218_0, c218_0, e218, hx218_0, hl218_0, hi218_0⟩ := at_L1 HR206.out t207 p218 q218
                          cases e218
                          replace hx218_0 := (HB.out.cell (World.block_lt_of_cell? w _ hx218_0)).trans hx218_0
                          have HR218_0 := Aside0.mk hi218_0
                          have HC218_0 := Aside0.mk hl218_0
                          clear hi218_0 hl218_0
                          replace p218 := eq_true p218
                          replace q218 := eq_true q218
                          go_wp2_with (first | (go_at_call 9; (with_reducible refine (humpyardlaw21_TraceShares_1.calls k1 _ _ (rd_L1 y203 t207) t209 false _ ?side1 ?side2 A40.out).mono ?_); (case side1 => repeat (first | exact (Kd.C_below HR218_0.out HB.out) | (with_reducible refine Kd.C_alloc ?_ _) | (with_reducible refine Kd.C_drewN ?_ _) | (with_reducible refine Kd.C_drew ?_))); (case side2 => exact HC218_0.out); rintro e w' ⟨rfl, ⟨nd, rfl⟩⟩))
                          go_ret
                          exact ⟨by first | rfl | (simp [errW_none, errW_some] <;> rfl) | (simp only [← hji3]; first | rfl | (simp [errW_none, errW_some] <;> rfl)) | (simp [*, errW_none, errW_some] <;> rfl), by repeat (first | (with_reducible first | exact HB.out | apply below_alloc | apply pw_below_drewN | apply below_drew1) | exact HB.out)⟩
                      · rw [if_neg c39] at H
                        exact absurd H (by simp)
                    · rw [if_neg c38] at H
                      exact absurd H (by simp)
                  · rw [if_neg c37] at H
                    have c37b0 : decide (t208 < (y203.length : Int)) = false := decide_eq_false c37
                    clear c37
                    obtain rfl := Option.some.inj H
                    go_wp2
                    go_ret
                    exact ⟨by first | rfl | (simp [errW_none, errW_some] <;> rfl) | (simp only [← hji3]; first | rfl | (simp [errW_none, errW_some] <;> rfl)) | (simp [*, errW_none, errW_some] <;> rfl), by repeat (first | (with_reducible first | exact HB.out | apply below_alloc | apply pw_below_drewN | apply below_drew1) | exact HB.out)⟩
                · rw [if_neg c36] at H
                  have c36b0 : decide (t207 < t208) = false := decide_eq_false c36
                  clear c36
                  obtain rfl := Option.some.inj H
                  go_wp2
                  go_ret
                  exact ⟨by first | rfl | (simp [errW_none, errW_some] <;> rfl) | (simp only [← hji3]; first | rfl | (simp [errW_none, errW_some] <;> rfl)) | (simp [*, errW_none, errW_some] <;> rfl), by repeat (first | (with_reducible first | exact HB.out | apply below_alloc | apply pw_below_drewN | apply below_drew1) | exact HB.out)⟩
              · replace c35 := Bool.eq_false_iff.mpr c35
                subst c35
                have H1 : (some false) = some r := by rw [if_neg (show ¬ (false = true) by decide)] at H; exact H
                clear H
                have H := H1
                clear H1
                obtain rfl := Option.some.inj H
                go_wp2
                go_ret
                exact ⟨by first | rfl | (simp [errW_none, errW_some] <;> rfl) | (simp only [← hji3]; first | rfl | (simp [errW_none, errW_some] <;> rfl)) | (simp [*, errW_none, errW_some] <;> rfl), by repeat (first | (with_reducible first | exact HB.out | apply below_alloc | apply pw_below_drewN | apply below_drew1) | exact HB.out)⟩
            · replace c34 := Bool.eq_false_iff.mpr c34
              subst c34
              have H1 : (if t202 = true then (if t207 = 0 then (if t208 = 0 then (some (t209 == 0)) else (some false)) else (some false)) else (some false)) = some r := by rw [if_neg (show ¬ (false = true) by decide)] at H; exact H
              clear H
              have H := H1
              clear H1
              by_cases c44 : t202 = true
              · subst c44
                have H1 : (if t207 = 0 then (if t208 = 0 then (some (t209 == 0)) else (some false)) else (some false)) = some r := by rw [if_pos rfl] at H; exact H
                clear H
                have H := H1
                clear H1
                by_cases c45 : t207 = 0
                · rw [if_pos c45] at H
                  have c45b0 : (t207 == 0) = true := beq_iff_eq.mpr c45
                  have c45b1 : (t207 != 0) = false := bne_eq_false_iff_eq.mpr c45
                  clear c45
                  by_cases c46 : t208 = 0
                  · rw [if_pos c46] at H
                    have c46b0 : (t208 == 0) = true := beq_iff_eq.mpr c46
                    have c46b1 : (t208 != 0) = false := bne_eq_false_iff_eq.mpr c46
                    clear c46
                    obtain rfl := Option.some.inj H
                    go_wp2
                    go_ret
                    exact ⟨by first | rfl | (simp [errW_none, errW_some] <;> rfl) | (simp only [← hji3]; first | rfl | (simp [errW_none, errW_some] <;> rfl)) | (simp [*, errW_none, errW_some] <;> rfl), by repeat (first | (with_reducible first | exact HB.out | apply below_alloc | apply pw_below_drewN | apply below_drew1) | exact HB.out)⟩
                  · rw [if_neg c46] at H
                    have c46b0 : (t208 == 0) = false := beq_eq_false_iff_ne.mpr c46
                    have c46b1 : (t208 != 0) = true := bne_iff_ne.mpr c46
                    obtain rfl := Option.some.inj H
                    go_wp2
                    go_ret
                    exact ⟨by first | rfl | (simp [errW_none, errW_some] <;> rfl) | (simp only [← hji3]; first | rfl | (simp [errW_none, errW_some] <;> rfl)) | (simp [*, errW_none, errW_some] <;> rfl), by repeat (first | (with_reducible first | exact HB.out | apply below_alloc | apply pw_below_drewN | apply below_drew1) | exact HB.out)⟩
                · rw [if_neg c45] at H
                  have c45b0 : (t207 == 0) = false := beq_eq_false_iff_ne.mpr c45
                  have c45b1 : (t207 != 0) = true := bne_iff_ne.mpr c45
                  obtain rfl := Option.some.inj H
                  go_wp2
                  go_ret
                  exact ⟨by first | rfl | (simp [errW_none, errW_some] <;> rfl) | (simp only [← hji3]; first | rfl | (simp [errW_none, errW_some] <;> rfl)) | (simp [*, errW_none, errW_some] <;> rfl), by repeat (first | (with_reducible first | exact HB.out | apply below_alloc | apply pw_below_drewN | apply below_drew1) | exact HB.out)⟩
              · replace c44 := Bool.eq_false_iff.mpr c44
                subst c44
                have H1 : (some false) = some r := by rw [if_neg (show ¬ (false = true) by decide)] at H; exact H
                clear H
                have H := H1
                clear H1
                obtain rfl := Option.some.inj H
                go_wp2
                go_ret
                exact ⟨by first | rfl | (simp [errW_none, errW_some] <;> rfl) | (simp only [← hji3]; first | rfl | (simp [errW_none, errW_some] <;> rfl)) | (simp [*, errW_none, errW_some] <;> rfl), by repeat (first | (with_reducible first | exact HB.out | apply below_alloc | apply pw_below_drewN | apply below_drew1) | exact HB.out)⟩
    · rw [if_neg c5] at H
      exact absurd H (by simp)
  · rw [if_neg c4] at H
    exact absurd H (by simp)

end Go.Proofs.YtffcdglhobdlhaaDoor.PA
