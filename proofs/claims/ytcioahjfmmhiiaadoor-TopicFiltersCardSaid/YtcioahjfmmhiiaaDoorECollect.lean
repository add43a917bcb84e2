/- slices.Collect over strings.SplitSeq at one slash: the parts, as a slice of the call's own. -/
import Derived.Test.YtcioahjfmmhiiaaDoorESplit
import Derived.Maps.AppendAt
import Derived.RangeFuncBox
namespace Go.Proofs.YtcioahjfmmhiiaaDoor.PA
open Go.RowKit Go.Shelf Go.Proofs.YtcioahjfmmhiiaaDoorW.PrintWords Go.Proofs.YtcioahjfmmhiiaaDoorW.PrintLast Go.Proofs.YtcioahjfmmhiiaaDoorW.PrintMore
attribute [local go_sem] Oper.semAt_some
theorem info9s : (Tryd.prog.info? 9).map (fun i => (i.zero, i.size, i.bytes)) = some (some (.string ⟨#[]⟩), 1, 16) := by kernel_rfl

/-- What lay below stands, but for the one box. -/
structure Fr (bx : Nat) (A B : World) : Prop where
  os : B.os = A.os
  tape : B.tape = A.tape
  output : B.output = A.output
  size : A.heap.size ≤ B.heap.size
  low : ∀ k, k < A.heap.size → k ≠ bx → B.heap[k]? = A.heap[k]?
theorem own_mv {bx D base n : Nat} {A B : World} {v : Value} {xs : List Value} (h : A.ownsRow base 9 1 v n xs) (hb : bx < base) (hm : Mv bx D A B) : B.ownsRow base 9 1 v n xs :=
  own_move h fun k hk => by
    obtain ⟨cells, hc⟩ := own_typed h k hk
    have hk2 := own_base h k hk
    exact (hm.cells k _ hc rfl (by omega)).trans hc.symm
theorem Fr.mv {bx D : Nat} {w A B : World} (h : Fr bx w A) (hm : Mv bx D A B) (hD : w.heap.size ≤ D) : Fr bx w B :=
  ⟨hm.os.trans h.os, hm.tape.trans h.tape, hm.output.trans h.output, Nat.le_trans h.size hm.size, fun k hk hne => (hm.low k (by omega) hne).trans (h.low k hk hne)⟩

theorem cell_box {w : World} {b : Nat} {v : Value} {t : TypeId} (h : w.heap[b]? = some (.cells #[v] t)) : w.cell? ⟨b, 0, none⟩ = some v := by simp [World.cell?, h]
theorem frozen_box {w : World} {b : Nat} {v : Value} {t : TypeId} (h : w.heap[b]? = some (.cells #[v] t)) : w.frozen? ⟨b, 0, none⟩ = false := by simp [World.frozen?, h]
theorem box_kept {W w1 : World} {b n : Nat} {v : Value} {xs : List Value} {o q : Obj} (ho : W.ownsRow (b + 1) 9 1 v n xs) (hg : (W.alloc o).grownBy w1 v.ownBlock) (hv : W.heap[b]? = some q) : w1.heap[b]? = some q := by
  have hlt := lt_some hv
  rw [hg.block b (by simp; omega) (fun e => by have := own_base ho b e.symm; omega)]
  exact (Below.heap_alloc W o b hlt).trans hv
set_option maxRecDepth 100000 in
set_option maxHeartbeats 4000000 in
theorem append_seq (b1 bx b3 : Nat) (s : ByteArray) (w : World) (h1 : w.heap[b1]? = some (.cells #[.string ⟨#[47]⟩] 9)) (h2 : w.heap[bx]? = some (.cells #[.string s] 9)) (h3 : w.heap[b3]? = some (.cells #[.int .i64 0] 3)) (hn1 : b1 ≠ bx) (hn3 : b3 ≠ bx) (hs : s.size ≤ 9223372036854775807) (hlen : (partsB s).length * 16 ≤ 140737488355328) :
    Calls Tryd.prog 36 #[.slice none 0 0, .func (.func 54) #[] #[.pointer (some ⟨b1, 0, none⟩), .pointer (some ⟨bx, 0, none⟩), .pointer (some ⟨b3, 0, none⟩)]] w fun e w' => ∃ v : Value, e = .returned v ∧ w'.ownsRow (w.heap.size + 1) 9 1 v (partsB s).length ((partsB s).map Value.string) ∧ Fr bx w w' := by
  refine (callsIn_wide (n := 4)).1 ?_
  have hbw := lt_some h2
  refine callsIn_of_wp_marks Tryd.func36 rfl trivial ?_ rfl
  simp only [Tryd.ntmps36, List.size_toArray, List.length_cons, List.length_nil, Nat.reduceAdd, Nat.reduceSub, Array.replicate_succ, Array.replicate_zero, List.push_toArray, List.append_toArray, List.nil_append, List.cons_append]
  have hbw1 := lt_some h1
  have hbw3 := lt_some h3
  have hb0 : ∀ k, k < w.heap.size → (w.alloc (.cells #[.slice none 0 0] 31)).heap[k]? = w.heap[k]? := fun k hk => Below.heap_alloc w _ k hk
  have hz0 : (w.alloc (.cells #[.slice none 0 0] 31)).heap[w.heap.size]? = some (.cells #[.slice none 0 0] 31) := World.alloc_heap_new w _
  have hsz : (w.alloc (.cells #[.slice none 0 0] 31)).heap.size = w.heap.size + 1 := by simp
  gi_wp2
  refine wpIn_rangeFunc_box (w0 := w.alloc (.cells #[.slice none 0 0] 31)) rfl (by decide) (gf := 54) rfl trivial (enters_of Tryd.func54 (by kernel_rfl) rfl)
    (split_seq b1 bx b3 s _ ((hb0 _ hbw1).trans h1) ((hb0 _ hbw).trans h2) ((hb0 _ hbw3).trans h3) hn1 hn3 hs) (fun _ _ => rfl) (by rintro k (rfl | rfl | rfl) <;> (rw [hsz]; omega)) (fun _ => rfl)
    (fun pre W => ∃ v, W.heap[w.heap.size]? = some (.cells #[v] 31) ∧ W.ownsRow (w.heap.size + 1) 9 1 v pre.length (pre.map Value.string) ∧ Fr bx w W)
    (fun _ _ _ => False) ?hI (fun _ _ _ _ h => h.elim) ?h0
    (fun x => { tmps := #[.slice none 0 0, .func (.func 54) #[] #[.pointer (some ⟨b1, 0, none⟩), .pointer (some ⟨bx, 0, none⟩), .pointer (some ⟨b3, 0, none⟩)], .pointer (some ⟨w.heap.size, 0, none⟩), undef, .slice none 0 0, .string x, .func (.func 54) #[] #[.pointer (some ⟨b1, 0, none⟩), .pointer (some ⟨bx, 0, none⟩), .pointer (some ⟨b3, 0, none⟩)], .string x, undef, undef, undef, undef, undef], defers := [] }) ?assign ?body ?done ?stop
  case hI =>
    rintro pre A B ⟨v, hv, ho, hf⟩ hm
    rw [hsz] at hm
    exact ⟨v, hm.cells _ _ hv rfl (by omega), own_mv ho (by omega) hm, hf.mv hm (by omega)⟩
  case h0 => exact ⟨_, hz0, World.ownsRow_nil _ _ _ _, ⟨rfl, rfl, rfl, by simp, fun k hk _ => hb0 k hk⟩⟩
  case assign =>
    intro l x W K hK
    gi_wp2
    exact hK
  case body =>
    rintro l pre x W ⟨v, hv, ho, hf⟩ hpre hWs hbox
    have hvc : W.cell? ⟨w.heap.size, 0, none⟩ = some v := by simp [World.cell?, hv]
    have hpl := hpre.length_le
    rw [List.length_append, List.length_singleton] at hpl
    have hl1 : pre.length + 1 ≤ maxLen := by simp [maxLen]; omega
    have hl2 : (pre.length + 1) * 16 ≤ 140737488355328 := Nat.le_trans (Nat.mul_le_mul_right _ hpl) hlen
    have hbs : w.heap.size < W.heap.size := lt_some hv
    obtain ⟨i0, hi9, hz90, hz91, hz92⟩ := info_parts info9s
    have H1 := Aside0.mk (And.intro hl1 hl2)
    have HO := Aside0.mk ho
    have HV := Aside0.mk hv
    have HF := Aside0.mk hf
    clear hpl hl1 hl2 ho hv hf
    gi_wp2_with (gi_at_builtin; refine wpListIn_append_own _ rfl _ _ 31 rfl (w.heap.size + 1) 9 i0 (.string ⟨#[]⟩) 1 16 Tryd.underlying31 hi9 hz90 hz91 hz92 rfl (by decide) _ _ _ rfl (HO.out.alloc _) ⟨W.heap.size, 0, none⟩ 1 1 [.string x] rfl rfl (cell_one_new _ _ _) (by simp [Value.oneCell']) H1.out.1 H1.out.2 (by simp; omega) ?_; intro v' w1 hown' hgrow _; obtain ⟨g', cap', rfl⟩ := ownsRow_succ hown'; have HW := Aside0.mk hown'; have HG := Aside0.mk hgrow; have hb1 := box_kept HO.out HG.out HV.out; have hc1 : w1.cell? ⟨w.heap.size, 0, none⟩ = some v := cell_box hb1; have hf1 : w1.frozen? ⟨w.heap.size, 0, none⟩ = false := frozen_box hb1; have HB1 := Aside0.mk hb1; clear hown' hgrow hb1)
    have hrow : ∀ (j : Nat) (o : Obj), v.ownBlock = some j → (W.alloc (.cells #[.string x] 9)).heap[j]? = some o → o.isCells = true := fun j o e hj => by
      obtain ⟨cells, hc⟩ := own_typed HO.out j e
      rw [Below.heap_alloc W _ j (lt_some hc), hc] at hj
      cases hj
      rfl
    have hkeep : ∀ k, k < w.heap.size → (w1.setCell ⟨w.heap.size, 0, none⟩ (.slice (some ⟨g', 0, none⟩) (pre.length + 1) cap')).heap[k]? = W.heap[k]? := fun k hk =>
      (Below.heap_setCell _ _ _ _ (by show k ≠ w.heap.size; omega)).trans ((HG.out.block k (by simp; omega) (fun e => by have := own_base HO.out k e.symm; omega)).trans (Below.heap_alloc W _ k (by omega)))
    refine ⟨((KeepsOthers.alloc W _).trans (KeepsOthers.of_grownBy HG.out hrow)).trans (KeepsOthers.setCell _ _ _), ?_, .slice (some ⟨g', 0, none⟩) (pre.length + 1) cap', ?_, ?_, ?_⟩
    · rintro k (rfl | rfl | rfl)
      · exact hkeep _ hbw1
      · exact hkeep _ hbw
      · exact hkeep _ hbw3
    · simp [World.setCell, Array.getElem?_modify, HB1.out]
    · rw [List.length_append, List.map_append]
      exact own_move HW.out (fun k hk => Below.heap_setCell _ _ _ _ (by have := own_base HW.out k hk; show k ≠ w.heap.size; omega))
    · have hg := HG.out
      have hf := HF.out
      refine ⟨hg.os.trans hf.os, hg.tape.trans hf.tape, hg.output.trans hf.output, ?_, fun k hk hne => (hkeep k hk).trans (hf.low k hk hne)⟩
      have h1 := hg.size
      have h2 := hf.size
      simp at h1
      simp [World.setCell]
      omega
  case done =>
    rintro W hWs ⟨v, hv, ho, hf⟩ hK
    have hvc : W.cell? ⟨w.heap.size, 0, none⟩ = some v := by simp [World.cell?, hv]
    have hm : Mv bx (w.heap.size + 1) W (W.putObj (w.alloc (.cells #[.slice none 0 0] 31)).heap.size (.deferred none)) := Mv.put _ hK rfl (by rw [hsz]; omega)
    gi_wp2
    refine ⟨by simp, .inl ⟨_, _, rfl, run_takeDeferred hK, ?_⟩⟩
    exact ⟨_, results_tmp rfl _ _ _, _, rfl, own_mv ho (by omega) hm, hf.mv hm (by omega)⟩
  case stop =>
    rintro c pre W _ h _
    exact h.elim
#print axioms append_seq
end Go.Proofs.YtcioahjfmmhiiaaDoor.PA
