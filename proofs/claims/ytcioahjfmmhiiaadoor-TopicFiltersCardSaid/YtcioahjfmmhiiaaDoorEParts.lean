/- slices.Collect(topic.parts(s)): the parts of a text between slashes, as a slice of strings of the call's own. -/
import Derived.Test.YtcioahjfmmhiiaaDoorECollect
namespace Go.Proofs.YtcioahjfmmhiiaaDoor.PA
open Go.RowKit Go.Proofs.YtcioahjfmmhiiaaDoorW.PrintWords Go.Proofs.YtcioahjfmmhiiaaDoorW.PrintLast Go.Proofs.YtcioahjfmmhiiaaDoorW.PrintMore

/-- The iterator over the text in a box, and the world that splitSeq leaves. -/
def iterV (b : Nat) : Value := .func (.func 54) #[] #[.pointer (some ⟨b + 1, 0, none⟩), .pointer (some ⟨b, 0, none⟩), .pointer (some ⟨b + 2, 0, none⟩)]
def boxesW (w : World) (s : ByteArray) : World := ((w.alloc (.cells #[.string s] 9)).alloc (.cells #[.string ⟨#[47]⟩] 9)).alloc (.cells #[.int .i64 0] 3)
set_option maxRecDepth 100000 in
theorem splitSeq_calls (s : ByteArray) (w : World) : Calls Tryd.prog 48 #[.string s, .string ⟨#[47]⟩, .int .i64 0] w fun e w' => e = .returned (iterV w.heap.size) ∧ w' = boxesW w s := by
  go_enter Tryd.func48, Tryd.ntmps48
  go_wp2
  go_ret
  exact ⟨rfl, rfl⟩
set_option maxRecDepth 100000 in
theorem SplitSeq_calls (s : ByteArray) (w : World) : Calls Tryd.prog 37 #[.string s, .string ⟨#[47]⟩] w fun e w' => e = .returned (iterV w.heap.size) ∧ w' = boxesW w s := by
  go_enter Tryd.func37, Tryd.ntmps37
  go_wp2_with fail
  refine (splitSeq_calls s w).mono ?_
  rintro e w' ⟨rfl, rfl⟩
  go_wp2
  go_ret
  exact ⟨rfl, rfl⟩
set_option maxRecDepth 100000 in
theorem parts_calls (s : ByteArray) (w : World) : Calls Tryd.prog 24 #[.string s] w fun e w' => e = .returned (iterV w.heap.size) ∧ w' = boxesW w s := by
  go_enter Tryd.func24, Tryd.ntmps24
  go_wp2_with fail
  refine (SplitSeq_calls s w).mono ?_
  rintro e w' ⟨rfl, rfl⟩
  go_wp2
  go_ret
  exact ⟨rfl, rfl⟩
theorem boxes_at (s : ByteArray) (w : World) : (boxesW w s).heap[w.heap.size]? = some (.cells #[.string s] 9) ∧ (boxesW w s).heap[w.heap.size + 1]? = some (.cells #[.string ⟨#[47]⟩] 9) ∧ (boxesW w s).heap[w.heap.size + 2]? = some (.cells #[.int .i64 0] 3) ∧ (boxesW w s).heap.size = w.heap.size + 3 ∧ Below w.heap.size w (boxesW w s) := by
  refine ⟨?_, ?_, ?_, by simp [boxesW], ((((Below.refl _ w).alloc (Nat.le_refl _) _).alloc (by simp) _).alloc (by simp; omega) _)⟩
  · exact (Below.heap_alloc _ _ _ (by simp; omega)).trans ((Below.heap_alloc _ _ _ (by simp)).trans (World.alloc_heap_new w _))
  · have := World.alloc_heap_new (w.alloc (.cells #[.string s] 9)) (.cells #[.string ⟨#[47]⟩] 9)
    rw [World.size_alloc] at this
    exact (Below.heap_alloc _ _ _ (by simp)).trans this
  · have := World.alloc_heap_new ((w.alloc (.cells #[.string s] 9)).alloc (.cells #[.string ⟨#[47]⟩] 9)) (.cells #[.int .i64 0] 3)
    rw [World.size_alloc, World.size_alloc] at this
    exact this
set_option maxRecDepth 100000 in
/-- slices.Collect at the iterator that topic.parts has made: in the world that parts left, or one that keeps its three boxes. -/
theorem collect_calls (b : Nat) (s : ByteArray) (W : World) (h2 : W.heap[b]? = some (.cells #[.string s] 9)) (h1 : W.heap[b + 1]? = some (.cells #[.string ⟨#[47]⟩] 9)) (h3 : W.heap[b + 2]? = some (.cells #[.int .i64 0] 3)) (hs : s.size ≤ 9223372036854775807) (hlen : (partsB s).length * 16 ≤ 140737488355328) :
    Calls Tryd.prog 23 #[iterV b] W fun e w' => ∃ v : Value, e = .returned v ∧ Kd.R Kd.string 9 w' (W.heap.size + 1) (fun _ => True) v (partsB s) ∧ Fr b W w' := by
  unfold iterV
  go_enter Tryd.func23, Tryd.ntmps23
  go_wp2_with fail
  refine (append_seq (b + 1) b (b + 2) s W h1 h2 h3 (by omega) (by omega) hs hlen).mono ?_
  rintro e w' ⟨v, rfl, ho, hf⟩
  have HO := Aside0.mk (show Kd.R Kd.string 9 w' (W.heap.size + 1) (fun _ => True) v (partsB s) from Kd.R_of_own (enc := Value.string) ho (fun _ _ => trivial))
  have HF := Aside0.mk hf
  clear ho hf
  go_wp2
  go_ret
  exact ⟨_, rfl, HO.out, HF.out⟩
#print axioms collect_calls
end Go.Proofs.YtcioahjfmmhiiaaDoor.PA
