/- trace.Shared: the first two lists that have an element in common, and the least such element. -/
import Derived.Test.YtffcdglhobdlhaaDoorDel
namespace Go.Proofs.YtffcdglhobdlhaaDoor.PA
open Go.RowKit Go.Proofs.YtffcdglhobdlhaaDoorW.PrintWords Go.Proofs.YtffcdglhobdlhaaDoorW.PrintLast Go.Proofs.YtffcdglhobdlhaaDoorW.PrintMore
open Go.Lib

def sharedIn (one : List Int) : List (List Int) → Int → Option (Int × Int)
  | [], _ => none
  | two :: r, b => if commonOf one two = [] then sharedIn one r (b + 1) else some (b, Lib.minOf (commonOf one two))
def sharedAt : List (List Int) → Int → Int × Int × Int × Bool
  | [], _ => (0, 0, 0, false)
  | one :: r, a => match sharedIn one r 0 with
    | some (b, x) => (a, a + 1 + b, x, true)
    | none => sharedAt r (a + 1)
def fitsAll (l0 : List (List Int)) : Prop := l0.length ≤ 1000000 ∧ ∀ x ∈ l0, x.length * 8 ≤ 140737488355328
instance (l0 : List (List Int)) : Decidable (fitsAll l0) := by unfold fitsAll; exact inferInstance
def trace_Shared.f (l0 : List (List Int)) : Option (Int × Int × Int × Bool) := if fitsAll l0 then some (sharedAt l0 0) else none

theorem sharedAt_drop (l : List (List Int)) (i : Nat) (h : i < l.length) (a : Int) : sharedAt (l.drop i) a = match sharedIn l[i] (l.drop (i + 1)) 0 with
    | some (b, x) => (a, a + 1 + b, x, true)
    | none => sharedAt (l.drop (i + 1)) (a + 1) := by
  rw [List.drop_eq_getElem_cons h]
  rfl
theorem sharedIn_drop (one : List Int) (l : List (List Int)) (i : Nat) (h : i < l.length) (b : Int) : sharedIn one (l.drop i) b = if commonOf one l[i] = [] then sharedIn one (l.drop (i + 1)) (b + 1) else some (b, Lib.minOf (commonOf one l[i])) := by
  rw [List.drop_eq_getElem_cons h]
  rfl

theorem results_tmp4 {fn : Func} {t u v x : Tmp} (h : fn.results = #[.tmp t, .tmp u, .tmp v, .tmp x]) (tmps : Array Value) (P : Program) (w : World) :
    (results fn tmps).run P w = .ok (.tuple #[tmps.getD t undef, tmps.getD u undef, tmps.getD v undef, tmps.getD x undef]) w := by simp [results, h]
/-- An element of a slice of slices: its own slice. -/
theorem C_rows {w : World} {A : Option Addr} {xs : List (List Int)} (h : Kd.C (Kd.slice 3 (Kd.int .i64)) w A xs.length xs) (i : Nat) (hi : i < xs.length) :
    ∃ ad A0 c0, A = some ad ∧ w.cell? (ad.add i) = some (.slice A0 xs[i].length c0) ∧ xs[i].length ≤ c0 ∧ Kd.C (Kd.int .i64) w A0 xs[i].length xs[i] := by
  obtain ⟨ad, A0, c0, e, h1, h2, h3⟩ := at_L1 h (i : Int) (by omega) (by omega)
  have hx : rd_L1 xs (i : Int) = xs[i] := by simp [rd_L1, List.getD_eq_getElem?_getD, hi]
  rw [hx, Int.toNat_natCast] at h1
  rw [hx] at h2 h3
  exact ⟨ad, A0, c0, e, h1, h2, h3⟩

set_option maxHeartbeats 4000000 in
set_option maxRecDepth 100000 in
theorem trace_Shared.calls (A0 : Option Addr) (c0 : Nat) (l0 : List (List Int)) (r1 : Int) (r2 : Int) (r3 : Int) (r4 : Bool) (w : World) (hr0 : Kd.C (Kd.slice 3 (Kd.int .i64)) w A0 l0.length l0) (hc0 : l0.length ≤ c0) (h : trace_Shared.f l0 = some (r1, r2, r3, r4)) :
    Calls Tryd.prog 8 #[.slice A0 l0.length c0] w fun e w' => e = .returned (.tuple #[.int .i64 r1, .int .i64 r2, .int .i64 r3, .bool r4]) ∧ Below w.heap.size w w' := by
  unfold trace_Shared.f at h
  by_cases hf : fitsAll l0
  case neg => rw [if_neg hf] at h; cases h
  rw [if_pos hf] at h
  have hres := Option.some.inj h
  clear h
  obtain ⟨hl, hfit⟩ := hf
  have HR := Aside0.mk hr0
  have HC := Aside0.mk hc0
  have HF := Aside0.mk hfit
  have HRES := Aside0.mk hres
  have HB0 := Aside0.mk (Below.refl w.heap.size w)
  clear hr0 hc0 hfit hres
  obtain ⟨i26, hi26, _, hsz26, _⟩ := info_parts info26
  go_enter Tryd.func8, Tryd.ntmps8
  go_wp2_with fail
  go_loopg [2, 3, 4, 5, 13] l0.length (fun k v2 v3 v4 v5 v13 wr => (v2 = .int .i64 0 ∧ v3 = .int .i64 0 ∧ v4 = .int .i64 0 ∧ v5 = .bool false) ∧ ∃ i : Nat, i ≤ l0.length ∧ k = l0.length - i ∧ v13 = .int .i64 i ∧ Aside0 (sharedAt (l0.drop i) (i : Int) = (r1, r2, r3, r4)) ∧ Aside0 (Below w.heap.size w wr))
  case atStart => exact ⟨⟨rfl, rfl, rfl, rfl⟩, 0, Nat.zero_le _, rfl, rfl, ⟨by simpa using HRES.out⟩, HB0⟩
  case round =>
    clear HRES HB0
    obtain ⟨⟨rfl, rfl, rfl, rfl⟩, i, hi, rfl, rfl, HS, HB⟩ := hrel
    by_cases hlt : i < l0.length
    · obtain ⟨ad, A1, c1, e1, hcell1, hc1, hr1⟩ := C_rows (Kd.C_below HR.out HB.out) i hlt
      cases e1
      have HS2 := Aside0.mk ((sharedAt_drop l0 i hlt (i : Int)).symm.trans HS.out)
      have hb1 := HF.out l0[i] (List.getElem_mem hlt)
      obtain ⟨one, hone⟩ : ∃ o, l0[i] = o := ⟨_, rfl⟩
      rw [hone] at hcell1 hc1 hr1 HS2 hb1
      have hcut := cut_from (P := Tryd.prog) 22 26 .i64 Tryd.underlying22 hi26 1 hsz26 (some ad) l0.length c0 ((i : Int) + 1) (by omega) (by omega)
      have hdr := Kd.C_drop (Kd.C_below HR.out HB.out) (show i + 1 ≤ l0.length by omega) HC.out
      have et : ((i : Int) + 1).toNat = i + 1 := by omega
      rw [et] at hcut
      have esz : (Kd.slice 3 (Kd.int .i64)).sz = 1 := rfl
      rw [esz] at hdr
      obtain ⟨A2, hA2⟩ : ∃ A2, (if c0 = i + 1 then some ad else (some ad).map (·.add ((i + 1) * 1))) = A2 := ⟨_, rfl⟩
      rw [hA2] at hcut hdr
      have HR1 := Aside0.mk hr1
      have HDR := Aside0.mk hdr
      have HB1 := Aside0.mk hb1
      have HC1 := Aside0.mk hc1
      clear hr1 hdr hA2 esz et hone hb1 hc1 HS
      go_wp2_with fail
      obtain ⟨wo, rfl⟩ : ∃ wo : World, wo = wr := ⟨_, rfl⟩
      have HBs := Aside0.mk (Below.refl wo.heap.size wo)
      go_loopg [2, 3, 4, 5, 23] (l0.length - (i + 1)) (fun k v2 v3 v4 v5 v23 wq => (v2 = .int .i64 0 ∧ v3 = .int .i64 0 ∧ v4 = .int .i64 0 ∧ v5 = .bool false) ∧ ∃ j : Nat, j ≤ l0.length - (i + 1) ∧ k = l0.length - (i + 1) - j ∧ v23 = .int .i64 j ∧ Aside0 ((match sharedIn one ((l0.drop (i + 1)).drop j) (j : Int) with
        | some (b, x) => ((i : Int), (i : Int) + 1 + b, x, true)
        | none => sharedAt (l0.drop (i + 1)) ((i : Int) + 1)) = (r1, r2, r3, r4)) ∧ Aside0 (Below wo.heap.size wo wq))
      case atStart => exact ⟨⟨rfl, rfl, rfl, rfl⟩, 0, Nat.zero_le _, rfl, rfl, ⟨by simpa using HS2.out⟩, HBs⟩
      case round =>
        clear HS2 HBs
        obtain ⟨⟨rfl, rfl, rfl, rfl⟩, j, hj, rfl, rfl, HT, HBq⟩ := hrel
        have hB1 := HB.out.trans (HBq.out.mono HB.out.size)
        by_cases hjt : j < l0.length - (i + 1)
        · have hjd : j < (l0.drop (i + 1)).length := by rw [List.length_drop]; exact hjt
          obtain ⟨ad2, A3, c3, e2, hcell2, hc3, hr3⟩ := C_rows (Kd.C_below HDR.out HBq.out) j hjd
          cases e2
          have HT2 := HT.out
          rw [sharedIn_drop one (l0.drop (i + 1)) j hjd] at HT2
          have hb3 : ((l0.drop (i + 1))[j]).length * 8 ≤ 140737488355328 := HF.out _ (List.mem_of_mem_drop (List.getElem_mem hjd))
          obtain ⟨two, htwo⟩ : ∃ o, (l0.drop (i + 1))[j] = o := ⟨_, rfl⟩
          rw [htwo] at hcell2 hc3 hr3 HT2 hb3
          have HT3 := Aside0.mk HT2
          have HR3 := Aside0.mk hr3
          have HC3 := Aside0.mk hc3
          have HB2 := Aside0.mk hB1
          clear HT2 hr3 hc3 hb3 htwo HT hB1
          go_wp2_with fail
          generalize hW1 : wr.alloc (.cells #[.slice A3 two.length c3] 26) = W1
          have hbox : W1.cell? ⟨wr.heap.size, 0, none⟩ = some (.slice A3 two.length c3) := by rw [← hW1]; simp
          have hsz1 : wr.heap.size < W1.heap.size := by rw [← hW1]; simp
          have hbw : Below w.heap.size w W1 := by rw [← hW1]; exact HB2.out.alloc HB2.out.size _
          have hbr : Below wo.heap.size wo W1 := by rw [← hW1]; exact HBq.out.alloc HBq.out.size _
          have hbq : Below wr.heap.size wr W1 := by rw [← hW1]; exact (Below.refl _ _).alloc (Nat.le_refl _) _
          have hr11 := Kd.C_below HR1.out hbr
          have hr33 := Kd.C_below HR3.out hbq
          clear hW1
          refine (clone_calls A1 c1 one W1 hr11 HB1.out).mono ?_
          rintro e w2 ⟨v, rfl, hv, hB2'⟩
          have hdel := delete_calls W1 w2 wr.heap.size A3 c3 one two v hB2' hsz1 hbox hr33 HC3.out hv
          have HDEL := Aside0.mk hdel
          have HW := Aside0.mk (And.intro hbw hbr)
          clear hdel hv hr11 hr33 hbox hsz1 hbq hbw hbr hB2'
          go_wp2_with fail
          refine HDEL.out.mono ?_
          rintro e w3 ⟨A4, c4, rfl, hc4, hr4, hB3⟩
          have HB4 := Aside0.mk (And.intro (HW.out.1.trans (hB3.mono HW.out.1.size)) (HW.out.2.trans (hB3.mono HW.out.2.size)))
          clear HDEL hB3 HW
          generalize hzs : commonOf one two = zs at hc4 hr4 HT3
          cases zs with
          | nil =>
            have HT5 := HT3.out
            rw [if_pos rfl] at HT5
            have HT6 := Aside0.mk HT5
            clear HT5 HT3 hr4 hc4 hzs
            rw [List.length_nil]
            go_wp2
            go_roundg (l0.length - (i + 1) - (j + 1))
            case measure => omega
            case rel => exact ⟨⟨rfl, rfl, rfl, rfl⟩, j + 1, by omega, rfl, by go_num, HT6, ⟨HB4.out.2⟩⟩
          | cons z zr =>
            have HT5 := HT3.out
            rw [if_neg (by simp)] at HT5
            have HT6 := Aside0.mk HT5
            have hp : 0 < (z :: zr).length := by simp
            obtain ⟨zs', hzs'⟩ : ∃ q, z :: zr = q := ⟨_, rfl⟩
            rw [hzs'] at hp hr4 HT6
            rw [hzs']
            have HM := Aside0.mk (min_calls A4 c4 zs' w3 hr4 hp)
            have hl4 : zs'.length ≤ 9223372036854775807 := hr4.2.1
            clear HT5 HT3 hr4 hc4 hzs hzs'
            go_wp2_with fail
            refine HM.out.mono ?_
            rintro e w4 ⟨rfl, rfl⟩
            go_wp2
            refine bodyPost_ret (results_tmp4 rfl _ _ _) rfl ?_
            have HT7 : ((i : Int), (i : Int) + 1 + (j : Int), Lib.minOf zs', true) = (r1, r2, r3, r4) := HT6.out
            simp only [Prod.mk.injEq] at HT7
            obtain ⟨rfl, rfl, rfl, rfl⟩ := HT7
            exact ⟨rfl, HB4.out.1⟩
        · have HT2 := HT.out
          rw [List.drop_of_length_le (by rw [List.length_drop]; omega)] at HT2
          have HT3 := Aside0.mk (show sharedAt (l0.drop (i + 1)) ((i : Int) + 1) = (r1, r2, r3, r4) from HT2)
          have HB2 := Aside0.mk hB1
          clear HT2 HT hB1
          go_wp2
          go_roundg (l0.length - (i + 1))
          case measure => omega
          case rel => exact ⟨⟨rfl, rfl, rfl, rfl⟩, i + 1, by omega, rfl, by go_num, ⟨by have := HT3.out; push_cast; exact this⟩, HB2⟩
    · have HS2 := HS.out
      rw [List.drop_of_length_le (by omega)] at HS2
      have HS3 := Aside0.mk (show ((0 : Int), (0 : Int), (0 : Int), false) = (r1, r2, r3, r4) from HS2)
      clear HS2 HS
      go_wp2
      refine bodyPost_ret (results_tmp4 rfl _ _ _) rfl ?_
      have HT7 := HS3.out
      simp only [Prod.mk.injEq] at HT7
      obtain ⟨rfl, rfl, rfl, rfl⟩ := HT7
      exact ⟨rfl, HB.out⟩
end Go.Proofs.YtffcdglhobdlhaaDoor.PA
