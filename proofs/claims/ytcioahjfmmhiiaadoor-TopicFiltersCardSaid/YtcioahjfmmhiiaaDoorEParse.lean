/- topic.Parse: the topic of a text. -/
import Derived.Test.YtcioahjfmmhiiaaDoorEParts
import Derived.Test.YtcioahjfmmhiiaaDoorEName
import Derived.Test.YtcioahjfmmhiiaaDoorPAf19
import Derived.Test.YtcioahjfmmhiiaaDoorEJoin
import Derived.Deep.RegionHeld
import Derived.Test.YtcioahjfmmhiiaaDoorEKind
namespace Go.Proofs.YtcioahjfmmhiiaaDoor.PA
open Go.RowKit Go.Proofs.YtcioahjfmmhiiaaDoorW.PrintWords Go.Proofs.YtcioahjfmmhiiaaDoorW.PrintLast Go.Proofs.YtcioahjfmmhiiaaDoorW.PrintMore

/-- What stands ahead of every topic's text. -/
def headB : List UInt8 := [117, 97, 103, 118, 47, 118, 50, 47]
def behindOf (a0 : ByteArray) : ByteArray := ⟨(Lib.trimPrefix a0.data.toList headB).toArray⟩
theorem cut_calls (s : ByteArray) (w : World) : Calls Tryd.prog 22 #[.string s, .string ⟨#[117, 97, 103, 118, 47, 118, 50, 47]⟩] w fun e w' => e = .returned (.tuple #[.string (behindOf s), .bool (Lib.hasPrefix s.data.toList headB)]) ∧ w' = w :=
  Tryd.strings_CutPrefix s ⟨headB.toArray⟩ w
/-- What Parse tells of the parts. -/
def parseOf (kq : ByteArray → Bool) (ok : Bool) (ps : List ByteArray) : ByteArray × ByteArray × ByteArray × Int := match ok, ps with
  | true, [m, v, k] => if isName m.data.toList = true ∧ isName v.data.toList = true ∧ kq k = true then (m, v, k, 0) else (⟨#[]⟩, ⟨#[]⟩, ⟨#[]⟩, 70)
  | _, _ => (⟨#[]⟩, ⟨#[]⟩, ⟨#[]⟩, 70)
def parseV (p : ByteArray × ByteArray × ByteArray × Int) : Value := .tuple #[.agg #[.string p.1, .string p.2.1, .string p.2.2.1], .int .i64 p.2.2.2]
theorem parseOf_len (kq : ByteArray → Bool) (ps : List ByteArray) (h : ¬ ps.length = 3) : parseOf kq true ps = (⟨#[]⟩, ⟨#[]⟩, ⟨#[]⟩, 70) := by
  unfold parseOf
  split
  · simp at h
  · rfl
theorem parseOf_bad (kq : ByteArray → Bool) (m v k : ByteArray) (h : ¬ (isName m.data.toList = true ∧ isName v.data.toList = true ∧ kq k = true)) : parseOf kq true [m, v, k] = (⟨#[]⟩, ⟨#[]⟩, ⟨#[]⟩, 70) := if_neg h
theorem parseOf_good (kq : ByteArray → Bool) (m v k : ByteArray) (h : isName m.data.toList = true ∧ isName v.data.toList = true ∧ kq k = true) : parseOf kq true [m, v, k] = (m, v, k, 0) := if_pos h
set_option maxRecDepth 100000 in
theorem parse_walk (kq : ByteArray → Bool) (hk : ∀ x, topic_kind.f 20 x = some (kq x)) (a0 : ByteArray) (w : World) (hs : (behindOf a0).size ≤ 9223372036854775807) (hlen : (partsB (behindOf a0)).length * 16 ≤ 140737488355328) :
    Calls Tryd.prog 14 #[.string a0] w fun e w' => e = .returned (parseV (parseOf kq (Lib.hasPrefix a0.data.toList headB) (partsB (behindOf a0)))) ∧ Below w.heap.size w w' := by
  obtain ⟨res, hres⟩ : ∃ res, parseOf kq (Lib.hasPrefix a0.data.toList headB) (partsB (behindOf a0)) = res := ⟨_, rfl⟩
  rw [hres]
  have HRES := Aside0.mk hres
  clear hres
  go_enter Tryd.func14, Tryd.ntmps14
  go_wp2_with fail
  have hz : (w.alloc (.cells #[.string ⟨#[]⟩, .string ⟨#[]⟩, .string ⟨#[]⟩] 23)).heap[w.heap.size]? = some (.cells #[.string ⟨#[]⟩, .string ⟨#[]⟩, .string ⟨#[]⟩] 23) := World.alloc_heap_new w _
  have hb0 : Below w.heap.size w (w.alloc (.cells #[.string ⟨#[]⟩, .string ⟨#[]⟩, .string ⟨#[]⟩] 23)) := (Below.refl _ w).alloc (Nat.le_refl _) _
  generalize w.alloc (.cells #[.string ⟨#[]⟩, .string ⟨#[]⟩, .string ⟨#[]⟩] 23) = W0 at hz hb0 ⊢
  have HZ := Aside0.mk hz
  have HB0 := Aside0.mk hb0
  clear hz hb0
  refine (cut_calls a0 W0).mono ?_
  rintro e w' ⟨rfl, rfl⟩
  generalize behindOf a0 = bh at hs hlen HRES ⊢
  generalize Lib.hasPrefix a0.data.toList headB = ok at HRES ⊢
  go_wp2_with fail
  refine (parts_calls bh w').mono ?_
  rintro e W1 ⟨rfl, rfl⟩
  obtain ⟨q1, q2, q3, q4, q5⟩ := boxes_at bh w'
  have hbn := lt_some HZ.out
  generalize boxesW w' bh = W1 at q1 q2 q3 q4 q5 ⊢
  have HZ1 := Aside0.mk ((q5.block _ hbn).trans HZ.out)
  have HB1 := Aside0.mk (HB0.out.trans (q5.mono HB0.out.size))
  generalize w'.heap.size = b at q1 q2 q3 q4 q5 hbn ⊢
  have Q1 := Aside0.mk q1
  have Q2 := Aside0.mk q2
  have Q3 := Aside0.mk q3
  clear q1 q2 q3 q5
  go_wp2_with fail
  refine (collect_calls b bh W1 Q1.out Q2.out Q3.out hs hlen).mono ?_
  rintro e W2 ⟨v, rfl, ho, hf⟩
  obtain ⟨Ao, co, eo⟩ := Kd.R_slice ho
  subst eo
  have hz2 := (hf.low _ (by omega) (by omega)).trans HZ1.out
  have z0 : W2.cell? ⟨w.heap.size, 0, none⟩ = some (.string ⟨#[]⟩) := by simp [World.cell?, hz2]
  have z1 : W2.cell? ⟨w.heap.size, 1, none⟩ = some (.string ⟨#[]⟩) := by simp [World.cell?, hz2]
  have z2 : W2.cell? ⟨w.heap.size, 2, none⟩ = some (.string ⟨#[]⟩) := by simp [World.cell?, hz2]
  have f0 : W2.frozen? ⟨w.heap.size, 0, none⟩ = false := by simp [World.frozen?, hz2]
  have f1 : W2.frozen? ⟨w.heap.size, 1, none⟩ = false := by simp [World.frozen?, hz2]
  have f2 : W2.frozen? ⟨w.heap.size, 2, none⟩ = false := by simp [World.frozen?, hz2]
  have HZ2 := Aside0.mk hz2
  have HO := Aside0.mk ho
  have HB2 : Aside0 (Below w.heap.size w W2) := ⟨⟨hf.os.trans HB1.out.os, hf.tape.trans HB1.out.tape, hf.output.trans HB1.out.output, Nat.le_trans HB1.out.size hf.size, fun k hk => (hf.low k (by omega) (by omega)).trans (HB1.out.block k hk)⟩⟩
  have HN := Aside0.mk (lt_some HZ1.out)
  clear ho hf hz2 hbn q4 HZ1 HB1 HB0 HZ hs hlen
  generalize partsB bh = ps at HO HRES ⊢
  cases ok with
  | false =>
    go_wp2_with fail
    refine bodyPost_ret (v := .tuple #[.agg #[.string ⟨#[]⟩, .string ⟨#[]⟩, .string ⟨#[]⟩], .int .i64 70]) ?_ rfl ⟨by rw [← HRES.out]; rfl, ?_⟩
    · rw [results_cell_tmp (show Tryd.f14.results = #[.cell 2 23, .tmp 3] by kernel_rfl)]
      go_simp
    · exact ((HB2.out.setCell (p := ⟨w.heap.size, 0, none⟩) (Nat.le_refl _) _).setCell (p := ⟨w.heap.size, 1, none⟩) (Nat.le_refl _) _).setCell (p := ⟨w.heap.size, 2, none⟩) (Nat.le_refl _) _
  | true =>
    by_cases h3 : ps.length = 3
    · obtain ⟨m, v, k, rfl⟩ : ∃ m v k, ps = [m, v, k] := by
        match ps, h3 with
        | [m, v, k], _ => exact ⟨m, v, k, rfl⟩
      have hC := (Kd.R_reads' HO.out).2.2
      have hco := (Kd.R_reads' HO.out).2.1
      obtain ⟨g, off, rfl, hg, hcell⟩ := C_addr hC (by simp)
      have l0 : W2.cell? ⟨g, off, none⟩ = some (.string m) := by simpa using hcell 0 (by simp)
      have l1 : W2.cell? ⟨g, off + 1, none⟩ = some (.string v) := by simpa using hcell 1 (by simp)
      have l2 : W2.cell? ⟨g, off + 2, none⟩ = some (.string k) := by simpa using hcell 2 (by simp)
      clear hcell hC
      have HH := Aside0.mk (And.intro hg HZ2.out)
      have carry : ∀ W', Below W2.heap.size W2 W' → (W'.cell? ⟨w.heap.size, 0, none⟩ = some (.string ⟨#[]⟩) ∧ W'.cell? ⟨w.heap.size, 1, none⟩ = some (.string ⟨#[]⟩) ∧ W'.cell? ⟨w.heap.size, 2, none⟩ = some (.string ⟨#[]⟩)) ∧ (W'.frozen? ⟨w.heap.size, 0, none⟩ = false ∧ W'.frozen? ⟨w.heap.size, 1, none⟩ = false ∧ W'.frozen? ⟨w.heap.size, 2, none⟩ = false) ∧
          (W'.cell? ⟨g, off, none⟩ = some (.string m) ∧ W'.cell? ⟨g, off + 1, none⟩ = some (.string v) ∧ W'.cell? ⟨g, off + 2, none⟩ = some (.string k)) ∧ Below w.heap.size w W' := fun W' h => by
        have hz3 := (h.block _ (lt_some HH.out.2)).trans HH.out.2
        exact ⟨⟨by simp [World.cell?, hz3], by simp [World.cell?, hz3], by simp [World.cell?, hz3]⟩, ⟨by simp [World.frozen?, hz3], by simp [World.frozen?, hz3], by simp [World.frozen?, hz3]⟩,
          ⟨(h.cell (p := ⟨g, off, none⟩) HH.out.1).trans l0, (h.cell (p := ⟨g, off + 1, none⟩) HH.out.1).trans l1, (h.cell (p := ⟨g, off + 2, none⟩) HH.out.1).trans l2⟩, HB2.out.trans (h.mono HB2.out.size)⟩
      have CY := Aside0.mk carry
      clear carry
      go_wp2_with fail
      refine (topic_Name.calls m (isName m.data.toList) W2 rfl).mono ?_
      rintro e W3 ⟨rfl, hb3⟩
      obtain ⟨⟨z0, z1, z2⟩, ⟨f0, f1, f2⟩, ⟨l0, l1, l2⟩, HB3⟩ := CY.out W3 hb3
      have HW3 := Aside0.mk hb3
      have HB3 := Aside0.mk HB3
      clear hb3
      cases hm : isName m.data.toList with
      | false =>
        go_wp2_with fail
        refine bodyPost_ret (v := .tuple #[.agg #[.string ⟨#[]⟩, .string ⟨#[]⟩, .string ⟨#[]⟩], .int .i64 70]) ?_ rfl ⟨by rw [← HRES.out, parseOf_bad kq m v k (by rw [hm]; simp)]; rfl, ?_⟩
        · rw [results_cell_tmp (show Tryd.f14.results = #[.cell 2 23, .tmp 3] by kernel_rfl)]
          go_simp
        · exact ((HB3.out.setCell (p := ⟨w.heap.size, 0, none⟩) (Nat.le_refl _) _).setCell (p := ⟨w.heap.size, 1, none⟩) (Nat.le_refl _) _).setCell (p := ⟨w.heap.size, 2, none⟩) (Nat.le_refl _) _
      | true =>
        go_wp2_with fail
        refine (topic_Name.calls v (isName v.data.toList) W3 rfl).mono ?_
        rintro e W4 ⟨rfl, hb4⟩
        have hb24 := HW3.out.trans (hb4.mono HW3.out.size)
        obtain ⟨⟨z0, z1, z2⟩, ⟨f0, f1, f2⟩, ⟨l0, l1, l2⟩, HB4⟩ := CY.out W4 hb24
        have HW4 := Aside0.mk hb24
        have HB4 := Aside0.mk HB4
        clear hb4 hb24
        cases hv : isName v.data.toList with
        | false =>
          go_wp2_with fail
          refine bodyPost_ret (v := .tuple #[.agg #[.string ⟨#[]⟩, .string ⟨#[]⟩, .string ⟨#[]⟩], .int .i64 70]) ?_ rfl ⟨by rw [← HRES.out, parseOf_bad kq m v k (by rw [hv]; simp)]; rfl, ?_⟩
          · rw [results_cell_tmp (show Tryd.f14.results = #[.cell 2 23, .tmp 3] by kernel_rfl)]
            go_simp
          · exact ((HB4.out.setCell (p := ⟨w.heap.size, 0, none⟩) (Nat.le_refl _) _).setCell (p := ⟨w.heap.size, 1, none⟩) (Nat.le_refl _) _).setCell (p := ⟨w.heap.size, 2, none⟩) (Nat.le_refl _) _
        | true =>
          go_wp2_with fail
          refine (topic_kind.calls 20 k (kq k) W4 (hk k)).mono ?_
          rintro e W5 ⟨rfl, hb5⟩
          have hb25 := HW4.out.trans (hb5.mono HW4.out.size)
          obtain ⟨⟨z0, z1, z2⟩, ⟨f0, f1, f2⟩, ⟨l0, l1, l2⟩, HB5⟩ := CY.out W5 hb25
          have HB5 := Aside0.mk HB5
          clear hb5 hb25
          cases hkk : kq k with
          | false =>
            go_wp2_with fail
            refine bodyPost_ret (v := .tuple #[.agg #[.string ⟨#[]⟩, .string ⟨#[]⟩, .string ⟨#[]⟩], .int .i64 70]) ?_ rfl ⟨by rw [← HRES.out, parseOf_bad kq m v k (by rw [hkk]; simp)]; rfl, ?_⟩
            · rw [results_cell_tmp (show Tryd.f14.results = #[.cell 2 23, .tmp 3] by kernel_rfl)]
              go_simp
            · exact ((HB5.out.setCell (p := ⟨w.heap.size, 0, none⟩) (Nat.le_refl _) _).setCell (p := ⟨w.heap.size, 1, none⟩) (Nat.le_refl _) _).setCell (p := ⟨w.heap.size, 2, none⟩) (Nat.le_refl _) _
          | true =>
            go_wp2_with fail
            have hgb := own_base (Kd.own_of_R HO.out) g rfl
            have hgn : w.heap.size ≠ g := by have := HN.out; omega
            have hgn' : g ≠ w.heap.size := Ne.symm hgn
            go_region_held (fun W' => W'.cell? ⟨g, off, none⟩ = some (.string m) ∧ W'.cell? ⟨g, off + 1, none⟩ = some (.string v) ∧ W'.cell? ⟨g, off + 2, none⟩ = some (.string k)) (go_keep) (fail)
            all_goals go_wp2_with fail
            refine bodyPost_ret (v := .tuple #[.agg #[.string m, .string v, .string k], .int .i64 0]) ?_ rfl ⟨by rw [← HRES.out, parseOf_good kq m v k ⟨hm, hv, hkk⟩]; rfl, ?_⟩
            · rw [results_cell_tmp (show Tryd.f14.results = #[.cell 2 23, .tmp 3] by kernel_rfl)]
              go_simp
            · exact (((HB5.out.setCell (p := ⟨w.heap.size, 0, none⟩) (Nat.le_refl _) _).setCell (p := ⟨w.heap.size, 1, none⟩) (Nat.le_refl _) _).setCell (p := ⟨w.heap.size, 2, none⟩) (Nat.le_refl _) _).drew
    · have hb3 : ((ps.length : Int) != 3) = true := bne_iff_ne.2 (by omega)
      go_wp2_with fail
      refine bodyPost_ret (v := .tuple #[.agg #[.string ⟨#[]⟩, .string ⟨#[]⟩, .string ⟨#[]⟩], .int .i64 70]) ?_ rfl ⟨by rw [← HRES.out, parseOf_len kq ps h3]; rfl, ?_⟩
      · rw [results_cell_tmp (show Tryd.f14.results = #[.cell 2 23, .tmp 3] by kernel_rfl)]
        go_simp
      · exact ((HB2.out.setCell (p := ⟨w.heap.size, 0, none⟩) (Nat.le_refl _) _).setCell (p := ⟨w.heap.size, 1, none⟩) (Nat.le_refl _) _).setCell (p := ⟨w.heap.size, 2, none⟩) (Nat.le_refl _) _
def topic_Parse.f (a0 : ByteArray) : Option (ByteArray × ByteArray × ByteArray × Int) :=
  if (behindOf a0).size ≤ 9223372036854775807 ∧ (partsB (behindOf a0)).length * 16 ≤ 140737488355328 then some (parseOf isKind (Lib.hasPrefix a0.data.toList headB) (partsB (behindOf a0))) else none
theorem topic_Parse.calls (a0 : ByteArray) (r1 : ByteArray) (r2 : ByteArray) (r3 : ByteArray) (r4 : Int) (w : World) (h : topic_Parse.f a0 = some (r1, r2, r3, r4)) :
    Calls Tryd.prog 14 #[.string a0] w fun e w' => e = .returned (.tuple #[.agg #[.string r1, .string r2, .string r3], .int .i64 r4]) ∧ Below w.heap.size w w' := by
  unfold topic_Parse.f at h
  by_cases hf : (behindOf a0).size ≤ 9223372036854775807 ∧ (partsB (behindOf a0)).length * 16 ≤ 140737488355328
  case neg => rw [if_neg hf] at h; cases h
  rw [if_pos hf] at h
  have := parse_walk isKind kind_f a0 w hf.1 hf.2
  rw [Option.some.inj h] at this
  exact this
#print axioms topic_Parse.calls
end Go.Proofs.YtcioahjfmmhiiaaDoor.PA
