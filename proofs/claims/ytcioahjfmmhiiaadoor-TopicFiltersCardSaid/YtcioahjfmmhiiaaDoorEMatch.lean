/- topic.Match: whether a topic is one of a filter's. -/
import Derived.Test.YtcioahjfmmhiiaaDoorEParts
import Derived.Test.YtcioahjfmmhiiaaDoorEJoin
namespace Go.Proofs.YtcioahjfmmhiiaaDoor.PA
open Go.RowKit Go.Shelf Go.Proofs.YtcioahjfmmhiiaaDoorW.PrintWords Go.Proofs.YtcioahjfmmhiiaaDoorW.PrintLast Go.Proofs.YtcioahjfmmhiiaaDoorW.PrintMore
attribute [local go_sem] Oper.semAt_some
/-- One part of the filter against the name's parts: none: go on; else the answer. -/
def partSays (ps : List ByteArray) (last : Int) (i : Nat) (f : ByteArray) : Option Bool :=
  if f.data.toList = [35] ∧ (i : Int) = last then some true else if ps.length ≤ i then some false else if f.data.toList ≠ [43] ∧ f.data.toList ≠ (ps.getD i ByteArray.empty).data.toList then some false else none
/-- What Match tells, from the i-th part of the filter on. -/
def matchFrom (ps : List ByteArray) (last : Int) : Nat → List ByteArray → Bool
  | i, [] => decide (i = ps.length)
  | i, f :: r => match partSays ps last i f with
    | some b => b
    | none => matchFrom ps last (i + 1) r
theorem pieces_len : ∀ (l acc : List UInt8), (pieces acc l).length ≤ l.length + 1
  | [], acc => by simp [pieces]
  | c :: r, acc => by
    unfold pieces
    split
    · have := pieces_len r []; simp; omega
    · have := pieces_len r (acc ++ [c]); simp; omega
theorem partsB_len (s : ByteArray) : (partsB s).length ≤ s.size + 1 := by
  unfold partsB partsL
  rw [List.length_map]
  exact pieces_len s.data.toList []
theorem m_stop {ps : List ByteArray} {ct : Int} {i : Nat} {x : ByteArray} {b : Bool} (h : partSays ps ct i x = some b) (r : List ByteArray) : matchFrom ps ct i (x :: r) = b := by
  rw [matchFrom, h]
theorem m_on {ps : List ByteArray} {ct : Int} {i : Nat} {x : ByteArray} (h : partSays ps ct i x = none) (r : List ByteArray) : matchFrom ps ct i (x :: r) = matchFrom ps ct (i + 1) r := by
  rw [matchFrom, h]
theorem heap_setCell_one {w : World} {b : Nat} {v v' : Value} {t : TypeId} (h : w.heap[b]? = some (.cells #[v] t)) : (w.setCell ⟨b, 0, none⟩ v').heap[b]? = some (.cells #[v'] t) := by
  simp [World.setCell, Array.getElem?_modify, h]
theorem below_put {B : Nat} {w A : World} (h : Below B w A) {k : Nat} (hk : B ≤ k) (o : Obj) : Below B w (A.putObj k o) :=
  ⟨h.os, h.tape, h.output, by simpa using h.size, fun j hj => (World.putObj_heap_other (by omega)).trans (h.block j hj)⟩
set_option maxRecDepth 100000 in
theorem res16 (tmps : Array Value) (w : World) (r0 : Nat) (b : Bool) (hp : tmps.getD 4 undef = .pointer (some ⟨r0, 0, none⟩)) (hc : w.cell? ⟨r0, 0, none⟩ = some (.bool b)) : (results Tryd.f16 tmps).run Tryd.prog w = .ok (.bool b) w := by
  have hp' : tmps[4]?.getD undef = .pointer (some ⟨r0, 0, none⟩) := by simpa using hp
  have hres : Tryd.f16.results = #[.cell 4 4] := by kernel_rfl
  simp only [results, hres]
  simp [hp', asAddr]
  go_simp
set_option maxRecDepth 100000 in
set_option maxHeartbeats 4000000 in
theorem match_walk (a0 a1 : ByteArray) (w : World) (hs0 : a0.size ≤ 9223372036854775806) (hs1 : a1.size ≤ 9223372036854775807) (hlen : (partsB a1).length * 16 ≤ 140737488355328) :
    Calls Tryd.prog 16 #[.string a0, .string a1] w fun e w' => e = .returned (.bool (matchFrom (partsB a1) (Lib.countByte a0.data.toList 47) 0 (partsB a0))) ∧ Below w.heap.size w w' := by
  refine (callsIn_wide (n := 4)).1 ?_
  refine callsIn_of_wp_marks Tryd.func16 rfl trivial ?_ rfl
  simp only [Tryd.ntmps16, List.size_toArray, List.length_cons, List.length_nil, Nat.reduceAdd, Nat.reduceSub, Array.replicate_succ, Array.replicate_zero, List.push_toArray, List.append_toArray, List.nil_append, List.cons_append]
  gi_wp2
  refine ⟨trivial, ?_⟩
  have hz : (w.alloc (.cells #[.bool false] 4)).heap[w.heap.size]? = some (.cells #[.bool false] 4) := World.alloc_heap_new w _
  have hb0 : Below w.heap.size w (w.alloc (.cells #[.bool false] 4)) := (Below.refl _ w).alloc (Nat.le_refl _) _
  generalize w.alloc (.cells #[.bool false] 4) = W0 at hz hb0 ⊢
  refine (callsIn_wide.2 (parts_calls a1 W0)).mono ?_
  rintro e W1 ⟨rfl, rfl⟩
  obtain ⟨q1, q2, q3, q4, q5⟩ := boxes_at a1 W0
  have hz1 := (q5.block _ (lt_some hz)).trans hz
  have hb1 := hb0.trans (q5.mono hb0.size)
  generalize boxesW W0 a1 = W1 at q1 q2 q3 q4 q5 hz1 hb1 ⊢
  have hbn := lt_some hz
  generalize W0.heap.size = b at q1 q2 q3 q4 q5 hbn ⊢
  have HZ1 := Aside0.mk hz1
  have HB1 := Aside0.mk hb1
  have Q1 := Aside0.mk q1
  have Q2 := Aside0.mk q2
  have Q3 := Aside0.mk q3
  clear hz hb0 hz1 hb1 q1 q2 q3 q5
  gi_wp2
  refine ⟨trivial, ?_⟩
  refine (callsIn_wide.2 (collect_calls b a1 W1 Q1.out Q2.out Q3.out hs1 hlen)).mono ?_
  rintro e W2 ⟨v, rfl, ho, hf⟩
  obtain ⟨Ao, co, eo⟩ := Kd.R_slice ho
  subst eo
  have HO := Aside0.mk ho
  have HF := Aside0.mk hf
  clear ho hf
  gi_wp2
  refine ⟨trivial, ?_⟩
  refine (callsIn_wide.2 (Tryd.strings_Count_one a0 47 W2)).mono ?_
  rintro e w' ⟨rfl, rfl⟩
  have hcnt : (0 : Int) ≤ 0 := Int.le_refl _
  generalize hps : partsB a1 = ps at HO ⊢
  generalize hct : (Lib.countByte a0.data.toList 47 : Int) = ct
  gi_wp2
  refine ⟨trivial, ?_⟩
  have hV : ∀ V, ((w'.alloc (.cells #[.slice Ao ps.length co] 31)).alloc (.cells #[.int .i64 ct] 3)).alloc (.cells #[.int .i64 0] 3) = V →
      V.heap[w'.heap.size]? = some (.cells #[.slice Ao ps.length co] 31) ∧ V.heap[w'.heap.size + 1]? = some (.cells #[.int .i64 ct] 3) ∧ V.heap[w'.heap.size + 2]? = some (.cells #[.int .i64 0] 3) ∧ V.heap.size = w'.heap.size + 3 ∧ Below w'.heap.size w' V := by
    rintro V rfl
    refine ⟨?_, ?_, ?_, by simp, ((((Below.refl _ w').alloc (Nat.le_refl _) _).alloc (by simp) _).alloc (by simp; omega) _)⟩
    · exact (Below.heap_alloc _ _ _ (by simp; omega)).trans ((Below.heap_alloc _ _ _ (by simp)).trans (World.alloc_heap_new w' _))
    · have := World.alloc_heap_new (w'.alloc (.cells #[.slice Ao ps.length co] 31)) (.cells #[.int .i64 ct] 3)
      rw [World.size_alloc] at this
      exact (Below.heap_alloc _ _ _ (by simp)).trans this
    · have := World.alloc_heap_new ((w'.alloc (.cells #[.slice Ao ps.length co] 31)).alloc (.cells #[.int .i64 ct] 3)) (.cells #[.int .i64 0] 3)
      rw [World.size_alloc, World.size_alloc] at this
      exact this
  generalize ((w'.alloc (.cells #[.slice Ao ps.length co] 31)).alloc (.cells #[.int .i64 ct] 3)).alloc (.cells #[.int .i64 0] 3) = V at hV ⊢
  obtain ⟨v1, v2, v3, v4, v5⟩ := hV V rfl
  clear hV
  have HF2 := HF
  refine (callsIn_wide.2 (parts_calls a0 V)).mono ?_
  rintro e W5 ⟨rfl, rfl⟩
  obtain ⟨p1, p2, p3, p4, p5⟩ := boxes_at a0 V
  have r1 := (p5.block _ (lt_some v1)).trans v1
  have r2 := (p5.block _ (lt_some v2)).trans v2
  have r3 := (p5.block _ (lt_some v3)).trans v3
  generalize boxesW V a0 = W5 at p1 p2 p3 p4 p5 r1 r2 r3 ⊢
  gi_wp2
  have hr0 : w.heap.size < b := hbn
  have hn5 : b + 3 ≤ w'.heap.size := by have := HF.out.size; omega
  have hz5 : W5.heap[w.heap.size]? = some (.cells #[.bool false] 4) := (p5.block _ (by omega)).trans ((v5.block _ (by omega)).trans ((HF.out.low _ (by omega) (by omega)).trans HZ1.out))
  have hfr5 : ∀ k, k < w'.heap.size → W5.heap[k]? = w'.heap[k]? := fun k hk => (p5.block k (by omega)).trans (v5.block k hk)
  have hbw : Below w.heap.size w w' := ⟨HF.out.os.trans HB1.out.os, HF.out.tape.trans HB1.out.tape, HF.out.output.trans HB1.out.output, Nat.le_trans HB1.out.size HF.out.size, fun k hk => (HF.out.low k (by omega) (by omega)).trans (HB1.out.block k hk)⟩
  have hb5 : Below w'.heap.size w' W5 := v5.trans (p5.mono (by omega))
  obtain ⟨xs, hxs⟩ : ∃ xs, partsB a0 = xs := ⟨_, rfl⟩
  have hgR := own_base (Kd.own_of_R HO.out)
  have hCR := (Kd.R_reads' HO.out).2.2
  rw [v4] at p1 p2 p3 p4
  have HR := Aside0.mk hgR
  have HC := Aside0.mk hCR
  have HB5 := Aside0.mk hb5
  have HBW := Aside0.mk hbw
  clear hgR hCR hb5 hbw HF HF2 HZ1 HB1 Q1 Q2 Q3 v1 v2 v3 v5 hcnt p5 HO
  generalize hsz5 : w'.heap.size = n5 at *
  have hD : W5.heap.size = n5 + 6 := by omega
  clear p4 v4
  refine wpIn_rangeFunc_box (w0 := W5) (bx := n5 + 3) rfl (by decide) (gf := 54) rfl trivial (enters_of Tryd.func54 (by kernel_rfl) rfl)
    (split_seq (n5 + 3 + 1) (n5 + 3) (n5 + 3 + 2) a0 _ p2 p1 p3 (by omega) (by omega) (by omega)) (fun _ _ => rfl) (by rintro k (rfl | rfl | rfl) <;> (rw [hD]; omega)) (fun _ => rfl)
    (fun pre W => (∀ k, k < n5 → k ≠ w.heap.size → W.heap[k]? = w'.heap[k]?) ∧ W.heap[w.heap.size]? = some (.cells #[.bool false] 4) ∧ W.heap[n5]? = some (.cells #[.slice Ao ps.length co] 31) ∧ W.heap[n5 + 1]? = some (.cells #[.int .i64 ct] 3) ∧ W.heap[n5 + 1 + 1]? = some (.cells #[.int .i64 pre.length] 3) ∧ Below w.heap.size w W ∧ ∀ rest, pre ++ rest = xs → matchFrom ps ct 0 xs = matchFrom ps ct pre.length rest)
    (fun c _ W => c = .ret ∧ W.heap[w.heap.size]? = some (.cells #[.bool (matchFrom ps ct 0 xs)] 4) ∧ Below w.heap.size w W) ?hI ?hIx ?h0
    (fun x => { tmps := #[Value.string a0, Value.string a1, undef, undef, Value.pointer (some { block := w.heap.size, off := 0 }), Value.pointer (some { block := n5, off := 0 }), Value.pointer (some { block := n5 + 1, off := 0 }), Value.pointer (some { block := n5 + 1 + 1, off := 0 }), .string x, Value.string a1, iterV b,
          Value.slice Ao ps.length co, Value.string a0, Value.int IntKind.i64 ct, Value.string a0,
          iterV (n5 + 3), .string x, undef, undef, undef, undef, undef, undef, undef, undef, undef, undef, undef,
          undef, undef, undef, undef, undef, undef, undef, undef, undef, undef, undef, undef, undef, undef, undef,
          undef, undef, undef, undef, undef], defers := [] }) ?assign ?body ?done ?stop
  case hI =>
    rintro pre A B ⟨i1, i2, i3, i4, i5, i6, i7⟩ hm
    rw [hD] at hm
    exact ⟨fun k hk hne => (hm.low k (by omega) (by omega)).trans (i1 k hk hne), (hm.low _ (by omega) (by omega)).trans i2, (hm.low _ (by omega) (by omega)).trans i3, (hm.low _ (by omega) (by omega)).trans i4, (hm.low _ (by omega) (by omega)).trans i5,
      ⟨hm.os.trans i6.os, hm.tape.trans i6.tape, hm.output.trans i6.output, Nat.le_trans i6.size hm.size, fun k hk => (hm.low k (by omega) (by omega)).trans (i6.block k hk)⟩, i7⟩
  case hIx =>
    rintro c pre A B ⟨rfl, i2, i6⟩ hm
    rw [hD] at hm
    exact ⟨rfl, (hm.low _ (by omega) (by omega)).trans i2,
      ⟨hm.os.trans i6.os, hm.tape.trans i6.tape, hm.output.trans i6.output, Nat.le_trans i6.size hm.size, fun k hk => (hm.low k (by omega) (by omega)).trans (i6.block k hk)⟩⟩
  case h0 => exact ⟨fun k hk _ => hfr5 k hk, hz5, r1, r2, r3, HBW.out.trans (HB5.out.mono (by omega)), fun rest h => by rw [List.nil_append] at h; subst h; rfl⟩
  case assign =>
    intro l x W K hK
    gi_wp2
    exact hK
  case body =>
    rintro l pre x W ⟨i1, i2, i3, i4, i5, i6, i7⟩ hpre hWs hbox
    have c5 : W.cell? ⟨n5, 0, none⟩ = some (.slice Ao ps.length co) := by simp [World.cell?, i3]
    have c6 : W.cell? ⟨n5 + 1, 0, none⟩ = some (.int .i64 ct) := by simp [World.cell?, i4]
    have c7 : W.cell? ⟨n5 + 1 + 1, 0, none⟩ = some (.int .i64 pre.length) := by simp [World.cell?, i5]
    have c4 : W.cell? ⟨w.heap.size, 0, none⟩ = some (.bool false) := by simp [World.cell?, i2]
    have f7 : W.frozen? ⟨n5 + 1 + 1, 0, none⟩ = false := by simp [World.frozen?, i5]
    have f4 : W.frozen? ⟨w.heap.size, 0, none⟩ = false := by simp [World.frozen?, i2]
    have HI := Aside0.mk (And.intro i1 (And.intro i2 (And.intro i3 (And.intro i4 (And.intro i5 (And.intro i6 i7))))))
    clear i1 i2 i3 i4 i5 i6 i7
    obtain ⟨rest, hrest⟩ := hpre
    rw [hxs, List.append_assoc] at hrest
    have hm := HI.out.2.2.2.2.2.2 ([x] ++ rest) hrest
    rw [List.singleton_append] at hm
    have HM := Aside0.mk hm
    have HREST := Aside0.mk hrest
    clear hm hrest
    have stop : ∀ (r : Bool) (ac : Act), partSays ps ct pre.length x = some r → boxPost (fun k => k = n5 + 3 + 1 ∨ k = n5 + 3 ∨ k = n5 + 3 + 2) (fun pre W => (∀ k, k < n5 → k ≠ w.heap.size → W.heap[k]? = w'.heap[k]?) ∧ W.heap[w.heap.size]? = some (.cells #[.bool false] 4) ∧ W.heap[n5]? = some (.cells #[.slice Ao ps.length co] 31) ∧ W.heap[n5 + 1]? = some (.cells #[.int .i64 ct] 3) ∧ W.heap[n5 + 1 + 1]? = some (.cells #[.int .i64 pre.length] 3) ∧ Below w.heap.size w W ∧ ∀ rest, pre ++ rest = xs → matchFrom ps ct 0 xs = matchFrom ps ct pre.length rest)
        (fun c _ W => c = .ret ∧ W.heap[w.heap.size]? = some (.cells #[.bool (matchFrom ps ct 0 xs)] 4) ∧ Below w.heap.size w W) (pre ++ [x]) W Exit.ret ac (W.setCell ⟨w.heap.size, 0, none⟩ (.bool r)) := fun r ac hr => by
      refine ⟨KeepsOthers.setCell _ _ _, rfl, ?_, HI.out.2.2.2.2.2.1.setCell (Nat.le_refl _) _⟩
      rw [HM.out, m_stop hr]
      exact heap_setCell_one HI.out.2.1
    have on_ : ∀ ac : Act, partSays ps ct pre.length x = none → boxPost (fun k => k = n5 + 3 + 1 ∨ k = n5 + 3 ∨ k = n5 + 3 + 2) (fun pre W => (∀ k, k < n5 → k ≠ w.heap.size → W.heap[k]? = w'.heap[k]?) ∧ W.heap[w.heap.size]? = some (.cells #[.bool false] 4) ∧ W.heap[n5]? = some (.cells #[.slice Ao ps.length co] 31) ∧ W.heap[n5 + 1]? = some (.cells #[.int .i64 ct] 3) ∧ W.heap[n5 + 1 + 1]? = some (.cells #[.int .i64 pre.length] 3) ∧ Below w.heap.size w W ∧ ∀ rest, pre ++ rest = xs → matchFrom ps ct 0 xs = matchFrom ps ct pre.length rest)
        (fun c _ W => c = .ret ∧ W.heap[w.heap.size]? = some (.cells #[.bool (matchFrom ps ct 0 xs)] 4) ∧ Below w.heap.size w W) (pre ++ [x]) W Exit.normal ac (W.setCell ⟨n5 + 1 + 1, 0, none⟩ (.int .i64 (pre.length + 1))) := fun ac hr => by
      have keep : ∀ k, k ≠ n5 + 1 + 1 → (W.setCell ⟨n5 + 1 + 1, 0, none⟩ (.int .i64 (pre.length + 1))).heap[k]? = W.heap[k]? := fun k hk => Below.heap_setCell _ _ _ _ (by show k ≠ n5 + 1 + 1; omega)
      refine ⟨KeepsOthers.setCell _ _ _, ?_, fun k hk hne => (keep k (by omega)).trans (HI.out.1 k hk hne), (keep _ (by omega)).trans HI.out.2.1, (keep _ (by omega)).trans HI.out.2.2.1, (keep _ (by omega)).trans HI.out.2.2.2.1, ?_, HI.out.2.2.2.2.2.1.setCell (p := ⟨n5 + 1 + 1, 0, none⟩) (by show w.heap.size ≤ n5 + 1 + 1; omega) _, fun rest' h' => ?_⟩
      · rintro k (rfl | rfl | rfl) <;> exact keep _ (by omega)
      · rw [heap_setCell_one HI.out.2.2.2.2.1]
        simp
      · have : rest' = rest := by
          have h2 := HREST.out
          rw [← h', List.append_assoc] at h2
          exact (List.append_cancel_left (List.append_cancel_left h2)).symm
        rw [HM.out, m_on hr, this]
        simp
    have hpl : pre.length + 1 ≤ 9223372036854775807 := by
      have h1 := congrArg List.length HREST.out
      have h2 := partsB_len a0
      rw [hxs] at h2
      simp at h1
      omega
    have hxl : x.toList = x.data.toList := ByteArray.toList_eq x
    have HS := Aside0.mk stop
    have HO := Aside0.mk on_
    have HX := Aside0.mk hxl
    clear stop on_ hxl
    by_cases hlt : pre.length < ps.length
    · obtain ⟨g, off, rfl, hg, hcell⟩ := C_addr HC.out (by omega)
      have hci := hcell pre.length hlt
      have hgR := HR.out g rfl
      have hcW : W.cell? ⟨g, off + pre.length, none⟩ = some (.string (ps.getD pre.length ByteArray.empty)) := by
        rw [← hci]
        have := HI.out.1 g (by omega) (by omega)
        simp [World.cell?, this]
      clear hcell hci
      generalize hy : ps.getD pre.length ByteArray.empty = y at hcW
      have HY := Aside0.mk hy
      clear hy
      gi_wp2
      all_goals clear hcW HI HM HREST hbox c5 c6 c7 c4 f7 f4
      · rename_i h1 h2
        exact HS.out _ _ (by unfold partSays; rw [← HX.out, if_pos ⟨h1, by simpa using h2⟩])
      · rename_i h1 h2 h3
        refine HS.out _ _ ?_
        unfold partSays
        rw [← HX.out, if_neg (by simpa [h1] using h2), if_neg (by omega), HY.out, h1, if_pos (by simpa [ByteArray.toList_eq, show ¬ ps.length ≤ pre.length by omega] using h3)]
      · rename_i h1 h2 h3
        refine HO.out _ ?_
        unfold partSays
        rw [← HX.out, if_neg (by simpa [h1] using h2), if_neg (by omega), HY.out, h1, if_neg (by simpa [ByteArray.toList_eq, show ¬ ps.length ≤ pre.length by omega] using h3)]
      · rename_i h1 h2 h3
        refine HO.out _ ?_
        unfold partSays
        rw [← HX.out, if_neg (by rw [h2]; simp), if_neg (by omega), HY.out, h2, if_neg (by simp)]
      · rename_i h1 h2 h3
        refine HS.out _ _ ?_
        unfold partSays
        rw [← HX.out, if_neg (by simp [h1]), if_neg (by omega), HY.out, if_pos (by simpa [ByteArray.toList_eq, show ¬ ps.length ≤ pre.length by omega] using h3)]
      · rename_i h1 h2 h3
        refine HO.out _ ?_
        unfold partSays
        have h4 : x.data.toList = [43] ∨ x.data = y.data := by simpa [ByteArray.toList_eq, show ¬ ps.length ≤ pre.length by omega] using h3
        rw [← HX.out, if_neg (by simp [h1]), if_neg (by omega), HY.out, if_neg ?_]
        rintro ⟨c1, c2⟩
        rcases h4 with h4 | h4
        · exact c1 (HX.out.trans h4)
        · exact c2 (by rw [HX.out, h4])
    · gi_wp2
      all_goals clear HI HM HREST hbox c5 c6 c7 c4 f7 f4
      · rename_i h1 h2
        exact HS.out _ _ (by unfold partSays; rw [← HX.out, if_pos ⟨h1, by simpa using h2⟩])
      · rename_i h1 h2
        refine HS.out _ _ ?_
        unfold partSays
        rw [← HX.out, if_neg (by simpa [h1] using h2), if_pos (by omega)]
      · rename_i h1
        refine HS.out _ _ ?_
        unfold partSays
        rw [← HX.out, if_neg (by simp [h1]), if_pos (by omega)]
  case done =>
    rintro W hWs ⟨i1, i2, i3, i4, i5, i6, i7⟩ hK
    have c5 : W.cell? ⟨n5, 0, none⟩ = some (.slice Ao ps.length co) := by simp [World.cell?, i3]
    have c7 : W.cell? ⟨n5 + 1 + 1, 0, none⟩ = some (.int .i64 xs.length) := by simp [World.cell?, i5, hxs]
    have c4 : W.cell? ⟨w.heap.size, 0, none⟩ = some (.bool false) := by simp [World.cell?, i2]
    have f4 : W.frozen? ⟨w.heap.size, 0, none⟩ = false := by simp [World.frozen?, i2]
    have HI := Aside0.mk (And.intro i2 (And.intro i6 i7))
    clear i1 i2 i3 i4 i5 i6 i7
    gi_wp2
    have hk1 : (W.setCell { block := w.heap.size, off := 0 } (Value.bool ((xs.length : Int) == (ps.length : Int)))).heap[W5.heap.size]? = some (.deferred (some [])) := (Below.heap_setCell _ _ _ _ (by show W5.heap.size ≠ w.heap.size; omega)).trans hK
    refine ⟨by simp, .inl ⟨_, _, rfl, run_takeDeferred hk1, ?_⟩⟩
    have hcr := heap_setCell_one (v' := Value.bool ((xs.length : Int) == (ps.length : Int))) HI.out.1
    refine ⟨_, res16 _ _ w.heap.size ((xs.length : Int) == (ps.length : Int)) rfl ?_, ?_, ?_⟩
    · have : ((W.setCell { block := w.heap.size, off := 0 } (Value.bool ((xs.length : Int) == (ps.length : Int)))).putObj W5.heap.size (.deferred none)).heap[w.heap.size]? = _ := (World.putObj_heap_other (by omega)).trans hcr
      simp [World.cell?, this]
    · have hm := HI.out.2.2 [] (by rw [hxs, List.append_nil])
      rw [hps, hct, hxs, hm, hxs, matchFrom]
      have : ((xs.length : Int) == (ps.length : Int)) = decide (xs.length = ps.length) := by
        rw [Bool.eq_iff_iff, beq_iff_eq, decide_eq_true_iff]
        omega
      rw [this]
    · exact below_put (HI.out.2.1.setCell (p := ⟨w.heap.size, 0, none⟩) (Nat.le_refl _) _) (by omega) _
  case stop =>
    rintro c pre W _ ⟨rfl, i2, i6⟩ hK
    have c4 : W.cell? ⟨w.heap.size, 0, none⟩ = some (.bool (matchFrom ps ct 0 xs)) := by simp [World.cell?, i2]
    have HI := Aside0.mk (And.intro i2 i6)
    clear i2 i6
    gi_wp2
    refine ⟨by simp, .inl ⟨_, _, rfl, run_takeDeferred hK, ?_⟩⟩
    refine ⟨_, res16 _ _ w.heap.size (matchFrom ps ct 0 xs) rfl ?_, ?_, ?_⟩
    · have : (W.putObj W5.heap.size (.deferred none)).heap[w.heap.size]? = _ := (World.putObj_heap_other (by omega)).trans HI.out.1
      simp [World.cell?, this]
    · rw [hps, hct, hxs]
    · exact below_put HI.out.2 (by omega) _
/-- topic.Match as the print's contract: under bounds on sizes. -/
def topic_Match.f (a0 : ByteArray) (a1 : ByteArray) : Option (Bool) :=
  if a0.size ≤ 9223372036854775806 ∧ a1.size ≤ 9223372036854775807 ∧ (partsB a1).length * 16 ≤ 140737488355328 then some (matchFrom (partsB a1) (Lib.countByte a0.data.toList 47) 0 (partsB a0)) else none
theorem topic_Match.calls (a0 : ByteArray) (a1 : ByteArray) (r : Bool) (w : World) (h : topic_Match.f a0 a1 = some r) :
    Calls Tryd.prog 16 #[.string a0, .string a1] w fun e w' => e = .returned (.bool r) ∧ Below w.heap.size w w' := by
  unfold topic_Match.f at h
  by_cases hf : a0.size ≤ 9223372036854775806 ∧ a1.size ≤ 9223372036854775807 ∧ (partsB a1).length * 16 ≤ 140737488355328
  case neg => rw [if_neg hf] at h; cases h
  rw [if_pos hf] at h
  obtain rfl := Option.some.inj h
  exact match_walk a0 a1 w hf.1 hf.2.1 hf.2.2
#print axioms topic_Match.calls
end Go.Proofs.YtcioahjfmmhiiaaDoor.PA
