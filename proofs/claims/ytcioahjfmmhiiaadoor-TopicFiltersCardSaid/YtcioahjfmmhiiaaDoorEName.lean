/- topic.Name: of 1 to 16 bytes, each of those that may be. -/
import Derived.Test.YtcioahjfmmhiiaaDoorPAx0
import Derived.Test.YtcioahjfmmhiiaaDoorShelf
import Derived.Shelf.Strings.SlTrimAscii
import Derived.WalkKit
namespace Go.Proofs.YtcioahjfmmhiiaaDoor.PA
open Go.RowKit Go.Shelf Go.Proofs.YtcioahjfmmhiiaaDoorW.PrintWords Go.Proofs.YtcioahjfmmhiiaaDoorW.PrintLast Go.Proofs.YtcioahjfmmhiiaaDoorW.PrintMore

/-- The bytes that may be in a name. -/
def may : List UInt8 := [97, 98, 99, 100, 101, 102, 103, 104, 105, 106, 107, 108, 109, 110, 111, 112, 113, 114, 115, 116, 117, 118, 119, 120, 121, 122, 65, 66, 67, 68, 69, 70, 71, 72, 73, 74, 75, 76, 77, 78, 79, 80, 81, 82, 83, 84, 85, 86, 87, 88, 89, 90, 48, 49, 50, 51, 52, 53, 54, 55, 56, 57, 95, 46, 58, 45]
def isName (l : List UInt8) : Bool := l.all (may.contains ·) && decide (l ≠ []) && decide (l.length ≤ 16)
def topic_Name.f (a0 : ByteArray) : Option (Bool) := some (isName a0.data.toList)
theorem trim_calls (s : ByteArray) (w : World) : Calls Tryd.prog 21 #[.string s, .string ⟨may.toArray⟩] w fun e w' => e = .returned (.string ⟨(Lib.trimLeftS s.data.toList may).toArray⟩) ∧ Below w.heap.size w w' :=
  Any.strings_TrimLeft_laid Tryd.lays161 (by kernel_rfl) s ⟨may.toArray⟩ w (by decide) (ascii_of_all (by decide))
theorem trim_nil (l : List UInt8) : Lib.trimLeftS l may = [] ↔ l.all (may.contains ·) = true := by
  unfold Lib.trimLeftS
  induction l with
  | nil => simp
  | cons x l ih =>
    rw [List.dropWhile_cons, List.all_cons]
    by_cases h : may.contains x = true
    · rw [if_pos h, ih, h, Bool.true_and]
    · rw [if_neg h, Bool.not_eq_true _ |>.mp h]; simp
set_option maxRecDepth 100000 in
theorem topic_Name.calls (a0 : ByteArray) (r : Bool) (w : World) (h : topic_Name.f a0 = some r) :
    Calls Tryd.prog 12 #[.string a0] w fun e w' => e = .returned (.bool r) ∧ Below w.heap.size w w' := by
  obtain rfl := Option.some.inj h
  clear h
  go_enter Tryd.func12, Tryd.ntmps12
  go_wp2_with fail
  refine (trim_calls a0 w).mono ?_
  rintro e W1 ⟨rfl, hb⟩
  have HB := Aside0.mk hb
  clear hb
  obtain ⟨odd, ho⟩ : ∃ odd, (⟨(Lib.trimLeftS a0.data.toList may).toArray⟩ : ByteArray) = odd := ⟨_, rfl⟩
  rw [ho]
  have HO := Aside0.mk ho
  clear ho
  go_wp2_with fail
  all_goals go_ret
  · rename_i h1 h2
    refine ⟨?_, HB.out⟩
    have : a0.data.toList = [] := by rw [← ByteArray.toList_eq]; exact h2
    rw [this]
    rfl
  · rename_i h1 h2
    refine ⟨?_, HB.out⟩
    rw [← HO.out, ByteArray.toList_eq] at h1
    have h3 := (trim_nil a0.data.toList).1 (by simpa using h1)
    have h4 : ¬ a0.data.toList = [] := by rw [← ByteArray.toList_eq]; exact h2
    have h5 : a0.data.toList.length = a0.size := by simp
    unfold isName
    rw [h3, ByteArray.toList_eq, h5]
    have h6 : (decide (¬ a0.data.toList = [])) = !a0.data.toList.isEmpty := by cases a0.data.toList <;> simp
    have h7 : decide ((a0.size : Int) ≤ 16) = decide (a0.size ≤ 16) := by
      by_cases h : a0.size ≤ 16
      · rw [decide_eq_true h, decide_eq_true (by omega)]
      · rw [decide_eq_false h, decide_eq_false (by omega)]
    show Ending.returned (.bool (!a0.data.toList.isEmpty && decide ((a0.size : Int) ≤ 16))) = _
    rw [h7, Bool.true_and]
    rw [h6]
  · rename_i h1
    refine ⟨?_, HB.out⟩
    rw [← HO.out, ByteArray.toList_eq] at h1
    have h3 : ¬ (a0.data.toList.all (may.contains ·) = true) := fun h => h1 (by simpa using (trim_nil a0.data.toList).2 h)
    unfold isName
    rw [Bool.not_eq_true _ |>.mp h3]
    rfl
end Go.Proofs.YtcioahjfmmhiiaaDoor.PA
