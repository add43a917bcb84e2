-- written by wip/myprint.py: the kit's print, run with externs
import Derived.Test.YtcioahjfmmhiiaaDoorPAx0
import Derived.Test.YtcioahjfmmhiiaaDoorPAf13
namespace Go.Proofs.YtcioahjfmmhiiaaDoor.PA
open Go.RowKit Go.Proofs.YtcioahjfmmhiiaaDoorW.PrintWords Go.Proofs.YtcioahjfmmhiiaaDoorW.PrintLast Go.Proofs.YtcioahjfmmhiiaaDoorW.PrintMore
attribute [local go_sem] max2_int min2_int max_two min_two max_three min_three max_four min_four   -- for this text's walks alone
set_option linter.unusedVariables false
set_option linter.unusedSimpArgs false

/-! ### humpyardref07_Print: function 9 -/
def humpyardref07_Print.f (k : Nat) (a0_0 : ByteArray) (a0_1 : ByteArray) (a0_2 : ByteArray) : Option (ByteArray × Int) := (humpyardref07_Name.f k a0_0).bind fun t140 => ((humpyardref07_Name.f k a0_1).bind fun t141 => (if t140 = true then (if t141 = true then (if a0_2.toList = ([111, 114, 100, 101, 114] : List UInt8) then (if 8 + a0_0.size ≤ 9223372036854775807 then (if ((⟨#[117, 97, 103, 118, 47, 118, 50, 47]⟩ : ByteArray) ++ a0_0).size + 1 ≤ 9223372036854775807 then (if (((⟨#[117, 97, 103, 118, 47, 118, 50, 47]⟩ : ByteArray) ++ a0_0) ++ (⟨#[47]⟩ : ByteArray)).size + a0_1.size ≤ 9223372036854775807 then (if ((((⟨#[117, 97, 103, 118, 47, 118, 50, 47]⟩ : ByteArray) ++ a0_0) ++ (⟨#[47]⟩ : ByteArray)) ++ a0_1).size + 1 ≤ 9223372036854775807 then (if (((((⟨#[117, 97, 103, 118, 47, 118, 50, 47]⟩ : ByteArray) ++ a0_0) ++ (⟨#[47]⟩ : ByteArray)) ++ a0_1) ++ (⟨#[47]⟩ : ByteArray)).size + a0_2.size ≤ 9223372036854775807 then (some ((((((⟨#[117, 97, 103, 118, 47, 118, 50, 47]⟩ : ByteArray) ++ a0_0) ++ (⟨#[47]⟩ : ByteArray)) ++ a0_1) ++ (⟨#[47]⟩ : ByteArray)) ++ a0_2, 0)) else (none)) else (none)) else (none)) else (none)) else (none)) else (if a0_2.toList = ([105, 110, 115, 116, 97, 110, 116, 65, 99, 116, 105, 111, 110, 115] : List UInt8) then (if 8 + a0_0.size ≤ 9223372036854775807 then (if ((⟨#[117, 97, 103, 118, 47, 118, 50, 47]⟩ : ByteArray) ++ a0_0).size + 1 ≤ 9223372036854775807 then (if (((⟨#[117, 97, 103, 118, 47, 118, 50, 47]⟩ : ByteArray) ++ a0_0) ++ (⟨#[47]⟩ : ByteArray)).size + a0_1.size ≤ 9223372036854775807 then (if ((((⟨#[117, 97, 103, 118, 47, 118, 50, 47]⟩ : ByteArray) ++ a0_0) ++ (⟨#[47]⟩ : ByteArray)) ++ a0_1).size + 1 ≤ 9223372036854775807 then (if (((((⟨#[117, 97, 103, 118, 47, 118, 50, 47]⟩ : ByteArray) ++ a0_0) ++ (⟨#[47]⟩ : ByteArray)) ++ a0_1) ++ (⟨#[47]⟩ : ByteArray)).size + a0_2.size ≤ 9223372036854775807 then (some ((((((⟨#[117, 97, 103, 118, 47, 118, 50, 47]⟩ : ByteArray) ++ a0_0) ++ (⟨#[47]⟩ : ByteArray)) ++ a0_1) ++ (⟨#[47]⟩ : ByteArray)) ++ a0_2, 0)) else (none)) else (none)) else (none)) else (none)) else (none)) else (if a0_2.toList = ([115, 116, 97, 116, 101] : List UInt8) then (if 8 + a0_0.size ≤ 9223372036854775807 then (if ((⟨#[117, 97, 103, 118, 47, 118, 50, 47]⟩ : ByteArray) ++ a0_0).size + 1 ≤ 9223372036854775807 then (if (((⟨#[117, 97, 103, 118, 47, 118, 50, 47]⟩ : ByteArray) ++ a0_0) ++ (⟨#[47]⟩ : ByteArray)).size + a0_1.size ≤ 9223372036854775807 then (if ((((⟨#[117, 97, 103, 118, 47, 118, 50, 47]⟩ : ByteArray) ++ a0_0) ++ (⟨#[47]⟩ : ByteArray)) ++ a0_1).size + 1 ≤ 9223372036854775807 then (if (((((⟨#[117, 97, 103, 118, 47, 118, 50, 47]⟩ : ByteArray) ++ a0_0) ++ (⟨#[47]⟩ : ByteArray)) ++ a0_1) ++ (⟨#[47]⟩ : ByteArray)).size + a0_2.size ≤ 9223372036854775807 then (some ((((((⟨#[117, 97, 103, 118, 47, 118, 50, 47]⟩ : ByteArray) ++ a0_0) ++ (⟨#[47]⟩ : ByteArray)) ++ a0_1) ++ (⟨#[47]⟩ : ByteArray)) ++ a0_2, 0)) else (none)) else (none)) else (none)) else (none)) else (none)) else (if a0_2.toList = ([99, 111, 110, 110, 101, 99, 116, 105, 111, 110] : List UInt8) then (if 8 + a0_0.size ≤ 9223372036854775807 then (if ((⟨#[117, 97, 103, 118, 47, 118, 50, 47]⟩ : ByteArray) ++ a0_0).size + 1 ≤ 9223372036854775807 then (if (((⟨#[117, 97, 103, 118, 47, 118, 50, 47]⟩ : ByteArray) ++ a0_0) ++ (⟨#[47]⟩ : ByteArray)).size + a0_1.size ≤ 9223372036854775807 then (if ((((⟨#[117, 97, 103, 118, 47, 118, 50, 47]⟩ : ByteArray) ++ a0_0) ++ (⟨#[47]⟩ : ByteArray)) ++ a0_1).size + 1 ≤ 9223372036854775807 then (if (((((⟨#[117, 97, 103, 118, 47, 118, 50, 47]⟩ : ByteArray) ++ a0_0) ++ (⟨#[47]⟩ : ByteArray)) ++ a0_1) ++ (⟨#[47]⟩ : ByteArray)).size + a0_2.size ≤ 9223372036854775807 then (some ((((((⟨#[117, 97, 103, 118, 47, 118, 50, 47]⟩ : ByteArray) ++ a0_0) ++ (⟨#[47]⟩ : ByteArray)) ++ a0_1) ++ (⟨#[47]⟩ : ByteArray)) ++ a0_2, 0)) else (none)) else (none)) else (none)) else (none)) else (none)) else (if a0_2.toList = ([118, 105, 115, 117, 97, 108, 105, 122, 97, 116, 105, 111, 110] : List UInt8) then (if 8 + a0_0.size ≤ 9223372036854775807 then (if ((⟨#[117, 97, 103, 118, 47, 118, 50, 47]⟩ : ByteArray) ++ a0_0).size + 1 ≤ 9223372036854775807 then (if (((⟨#[117, 97, 103, 118, 47, 118, 50, 47]⟩ : ByteArray) ++ a0_0) ++ (⟨#[47]⟩ : ByteArray)).size + a0_1.size ≤ 9223372036854775807 then (if ((((⟨#[117, 97, 103, 118, 47, 118, 50, 47]⟩ : ByteArray) ++ a0_0) ++ (⟨#[47]⟩ : ByteArray)) ++ a0_1).size + 1 ≤ 9223372036854775807 then (if (((((⟨#[117, 97, 103, 118, 47, 118, 50, 47]⟩ : ByteArray) ++ a0_0) ++ (⟨#[47]⟩ : ByteArray)) ++ a0_1) ++ (⟨#[47]⟩ : ByteArray)).size + a0_2.size ≤ 9223372036854775807 then (some ((((((⟨#[117, 97, 103, 118, 47, 118, 50, 47]⟩ : ByteArray) ++ a0_0) ++ (⟨#[47]⟩ : ByteArray)) ++ a0_1) ++ (⟨#[47]⟩ : ByteArray)) ++ a0_2, 0)) else (none)) else (none)) else (none)) else (none)) else (none)) else (some ((⟨#[]⟩ : ByteArray), 70))))))) else (some ((⟨#[]⟩ : ByteArray), 70))) else (some ((⟨#[]⟩ : ByteArray), 70))))
theorem humpyardref07_Print.mono : ∀ a0 a1 a2 k, LeO (humpyardref07_Print.f k a0 a1 a2) (humpyardref07_Print.f (k + 1) a0 a1 a2) := by
  intro a0 a1 a2 k
  unfold humpyardref07_Print.f
  repeat' first
      | (with_reducible exact humpyardref07_Name.mono _ _)
      | (with_reducible exact LeO.refl _)
      | (with_reducible exact LeO.none _)
      | (with_reducible refine LeO.ite ?_ ?_)
      | (with_reducible refine LeO.bind ?_ (fun _ => ?_))
      | exact humpyardref07_Name.mono _ _
      | exact LeO.none _
      | refine LeO.ite ?_ ?_
      | refine LeO.bind ?_ (fun _ => ?_)
set_option maxHeartbeats 8000000 in
set_option maxRecDepth 100000 in
theorem humpyardref07_Print.calls (k : Nat) (a0_0 : ByteArray) (a0_1 : ByteArray) (a0_2 : ByteArray) (r1 : ByteArray) (r2 : Int) (w : World) (h : humpyardref07_Print.f k a0_0 a0_1 a0_2 = some (r1, r2)) :
    Calls Tryd.prog 9 #[.agg #[.string a0_0, .string a0_1, .string a0_2]] w fun e w' => e = .returned (.tuple #[.string r1, .int .i64 r2]) ∧ Below w.heap.size w w' := by
  have hu23 := Tryd.underlying23
  have HB := Aside0.mk (Below.refl w.heap.size w)
  have H : ((humpyardref07_Name.f k a0_0).bind fun t140 => ((humpyardref07_Name.f k a0_1).bind fun t141 => (if t140 = true then (if t141 = true then (if a0_2.toList = ([111, 114, 100, 101, 114] : List UInt8) then (if 8 + a0_0.size ≤ 9223372036854775807 then (if ((⟨#[117, 97, 103, 118, 47, 118, 50, 47]⟩ : ByteArray) ++ a0_0).size + 1 ≤ 9223372036854775807 then (if (((⟨#[117, 97, 103, 118, 47, 118, 50, 47]⟩ : ByteArray) ++ a0_0) ++ (⟨#[47]⟩ : ByteArray)).size + a0_1.size ≤ 9223372036854775807 then (if ((((⟨#[117, 97, 103, 118, 47, 118, 50, 47]⟩ : ByteArray) ++ a0_0) ++ (⟨#[47]⟩ : ByteArray)) ++ a0_1).size + 1 ≤ 9223372036854775807 then (if (((((⟨#[117, 97, 103, 118, 47, 118, 50, 47]⟩ : ByteArray) ++ a0_0) ++ (⟨#[47]⟩ : ByteArray)) ++ a0_1) ++ (⟨#[47]⟩ : ByteArray)).size + a0_2.size ≤ 9223372036854775807 then (some ((((((⟨#[117, 97, 103, 118, 47, 118, 50, 47]⟩ : ByteArray) ++ a0_0) ++ (⟨#[47]⟩ : ByteArray)) ++ a0_1) ++ (⟨#[47]⟩ : ByteArray)) ++ a0_2, 0)) else (none)) else (none)) else (none)) else (none)) else (none)) else (if a0_2.toList = ([105, 110, 115, 116, 97, 110, 116, 65, 99, 116, 105, 111, 110, 115] : List UInt8) then (if 8 + a0_0.size ≤ 9223372036854775807 then (if ((⟨#[117, 97, 103, 118, 47, 118, 50, 47]⟩ : ByteArray) ++ a0_0).size + 1 ≤ 9223372036854775807 then (if (((⟨#[117, 97, 103, 118, 47, 118, 50, 47]⟩ : ByteArray) ++ a0_0) ++ (⟨#[47]⟩ : ByteArray)).size + a0_1.size ≤ 9223372036854775807 then (if ((((⟨#[117, 97, 103, 118, 47, 118, 50, 47]⟩ : ByteArray) ++ a0_0) ++ (⟨#[47]⟩ : ByteArray)) ++ a0_1).size + 1 ≤ 9223372036854775807 then (if (((((⟨#[117, 97, 103, 118, 47, 118, 50, 47]⟩ : ByteArray) ++ a0_0) ++ (⟨#[47]⟩ : ByteArray)) ++ a0_1) ++ (⟨#[47]⟩ : ByteArray)).size + a0_2.size ≤ 9223372036854775807 then (some ((((((⟨#[117, 97, 103, 118, 47, 118, 50, 47]⟩ : ByteArray) ++ a0_0) ++ (⟨#[47]⟩ : ByteArray)) ++ a0_1) ++ (⟨#[47]⟩ : ByteArray)) ++ a0_2, 0)) else (none)) else (none)) else (none)) else (none)) else (none)) else (if a0_2.toList = ([115, 116, 97, 116, 101] : List UInt8) then (if 8 + a0_0.size ≤ 9223372036854775807 then (if ((⟨#[117, 97, 103, 118, 47, 118, 50, 47]⟩ : ByteArray) ++ a0_0).size + 1 ≤ 9223372036854775807 then (if (((⟨#[117, 97, 103, 118, 47, 118, 50, 47]⟩ : ByteArray) ++ a0_0) ++ (⟨#[47]⟩ : ByteArray)).size + a0_1.size ≤ 9223372036854775807 then (if ((((⟨#[117, 97, 103, 118, 47, 118, 50, 47]⟩ : ByteArray) ++ a0_0) ++ (⟨#[47]⟩ : ByteArray)) ++ a0_1).size + 1 ≤ 9223372036854775807 then (if (((((⟨#[117, 97, 103, 118, 47, 118, 50, 47]⟩ : ByteArray) ++ a0_0) ++ (⟨#[47]⟩ : ByteArray)) ++ a0_1) ++ (⟨#[47]⟩ : ByteArray)).size + a0_2.size ≤ 9223372036854775807 then (some ((((((⟨#[117, 97, 103, 118, 47, 118, 50, 47]⟩ : ByteArray) ++ a0_0) ++ (⟨#[47]⟩ : ByteArray)) ++ a0_1) ++ (⟨#[47]⟩ : ByteArray)) ++ a0_2, 0)) else (none)) else (none)) else (none)) else (none)) else (none)) else (if a0_2.toList = ([99, 111, 110, 110, 101, 99, 116, 105, 111, 110] : List UInt8) then (if 8 + a0_0.size ≤ 9223372036854775807 then (if ((⟨#[117, 97, 103, 118, 47, 118, 50, 47]⟩ : ByteArray) ++ a0_0).size + 1 ≤ 9223372036854775807 then (if (((⟨#[117, 97, 103, 118, 47, 118, 50, 47]⟩ : ByteArray) ++ a0_0) ++ (⟨#[47]⟩ : ByteArray)).size + a0_1.size ≤ 9223372036854775807 then (if ((((⟨#[117, 97, 103, 118, 47, 118, 50, 47]⟩ : ByteArray) ++ a0_0) ++ (⟨#[47]⟩ : ByteArray)) ++ a0_1).size + 1 ≤ 9223372036854775807 then (if (((((⟨#[117, 97, 103, 118, 47, 118, 50, 47]⟩ : ByteArray) ++ a0_0) ++ (⟨#[47]⟩ : ByteArray)) ++ a0_1) ++ (⟨#[47]⟩ : ByteArray)).size + a0_2.size ≤ 9223372036854775807 then (some ((((((⟨#[117, 97, 103, 118, 47, 118, 50, 47]⟩ : ByteArray) ++ a0_0) ++ (⟨#[47]⟩ : ByteArray)) ++ a0_1) ++ (⟨#[47]⟩ : ByteArray)) ++ a0_2, 0)) else (none)) else (none)) else (none)) else (none)) else (none)) else (if a0_2.toList = ([118, 105, 115, 117, 97, 108, 105, 122, 97, 116, 105, 111, 110] : List UInt8) then (if 8 + a0_0.size ≤ 9223372036854775807 then (if ((⟨#[117, 97, 103, 118, 47, 118, 50, 47]⟩ : ByteArray) ++ a0_0).size + 1 ≤ 9223372036854775807 then (if (((⟨#[117, 97, 103, 118, 47, 118, 50, 47]⟩ : ByteArray) ++ a0_0) ++ (⟨#[47]⟩ : ByteArray)).size + a0_1.size ≤ 9223372036854775807 then (if ((((⟨#[117, 97, 103, 118, 47, 118, 50, 47]⟩ : ByteArray) ++ a0_0) ++ (⟨#[47]⟩ : ByteArray)) ++ a0_1).size + 1 ≤ 9223372036854775807 then (if (((((⟨#[117, 97, 103, 118, 47, 118, 50, 47]⟩ : ByteArray) ++ a0_0) ++ (⟨#[47]⟩ : ByteArray)) ++ a0_1) ++ (⟨#[47]⟩ : ByteArray)).size + a0_2.size ≤ 9223372036854775807 then (some ((((((⟨#[117, 97, 103, 118, 47, 118, 50, 47]⟩ : ByteArray) ++ a0_0) ++ (⟨#[47]⟩ : ByteArray)) ++ a0_1) ++ (⟨#[47]⟩ : ByteArray)) ++ a0_2, 0)) else (none)) else (none)) else (none)) else (none)) else (none)) else (some ((⟨#[]⟩ : ByteArray), 70))))))) else (some ((⟨#[]⟩ : ByteArray), 70))) else (some ((⟨#[]⟩ : ByteArray), 70))))) = some (r1, r2) := h
  clear h
  replace H := Option.bind_eq_some_iff.mp H
  obtain ⟨t140, A20, H⟩ := H
  replace H : ((humpyardref07_Name.f k a0_1).bind fun t141 => (if t140 = true then (if t141 = true then (if a0_2.toList = ([111, 114, 100, 101, 114] : List UInt8) then (if 8 + a0_0.size ≤ 9223372036854775807 then (if ((⟨#[117, 97, 103, 118, 47, 118, 50, 47]⟩ : ByteArray) ++ a0_0).size + 1 ≤ 9223372036854775807 then (if (((⟨#[117, 97, 103, 118, 47, 118, 50, 47]⟩ : ByteArray) ++ a0_0) ++ (⟨#[47]⟩ : ByteArray)).size + a0_1.size ≤ 9223372036854775807 then (if ((((⟨#[117, 97, 103, 118, 47, 118, 50, 47]⟩ : ByteArray) ++ a0_0) ++ (⟨#[47]⟩ : ByteArray)) ++ a0_1).size + 1 ≤ 9223372036854775807 then (if (((((⟨#[117, 97, 103, 118, 47, 118, 50, 47]⟩ : ByteArray) ++ a0_0) ++ (⟨#[47]⟩ : ByteArray)) ++ a0_1) ++ (⟨#[47]⟩ : ByteArray)).size + a0_2.size ≤ 9223372036854775807 then (some ((((((⟨#[117, 97, 103, 118, 47, 118, 50, 47]⟩ : ByteArray) ++ a0_0) ++ (⟨#[47]⟩ : ByteArray)) ++ a0_1) ++ (⟨#[47]⟩ : ByteArray)) ++ a0_2, 0)) else (none)) else (none)) else (none)) else (none)) else (none)) else (if a0_2.toList = ([105, 110, 115, 116, 97, 110, 116, 65, 99, 116, 105, 111, 110, 115] : List UInt8) then (if 8 + a0_0.size ≤ 9223372036854775807 then (if ((⟨#[117, 97, 103, 118, 47, 118, 50, 47]⟩ : ByteArray) ++ a0_0).size + 1 ≤ 9223372036854775807 then (if (((⟨#[117, 97, 103, 118, 47, 118, 50, 47]⟩ : ByteArray) ++ a0_0) ++ (⟨#[47]⟩ : ByteArray)).size + a0_1.size ≤ 9223372036854775807 then (if ((((⟨#[117, 97, 103, 118, 47, 118, 50, 47]⟩ : ByteArray) ++ a0_0) ++ (⟨#[47]⟩ : ByteArray)) ++ a0_1).size + 1 ≤ 9223372036854775807 then (if (((((⟨#[117, 97, 103, 118, 47, 118, 50, 47]⟩ : ByteArray) ++ a0_0) ++ (⟨#[47]⟩ : ByteArray)) ++ a0_1) ++ (⟨#[47]⟩ : ByteArray)).size + a0_2.size ≤ 9223372036854775807 then (some ((((((⟨#[117, 97, 103, 118, 47, 118, 50, 47]⟩ : ByteArray) ++ a0_0) ++ (⟨#[47]⟩ : ByteArray)) ++ a0_1) ++ (⟨#[47]⟩ : ByteArray)) ++ a0_2, 0)) else (none)) else (none)) else (none)) else (none)) else (none)) else (if a0_2.toList = ([115, 116, 97, 116, 101] : List UInt8) then (if 8 + a0_0.size ≤ 9223372036854775807 then (if ((⟨#[117, 97, 103, 118, 47, 118, 50, 47]⟩ : ByteArray) ++ a0_0).size + 1 ≤ 9223372036854775807 then (if (((⟨#[117, 97, 103, 118, 47, 118, 50, 47]⟩ : ByteArray) ++ a0_0) ++ (⟨#[47]⟩ : ByteArray)).size + a0_1.size ≤ 9223372036854775807 then (if ((((⟨#[117, 97, 103, 118, 47, 118, 50, 47]⟩ : ByteArray) ++ a0_0) ++ (⟨#[47]⟩ : ByteArray)) ++ a0_1).size + 1 ≤ 9223372036854775807 then (if (((((⟨#[117, 97, 103, 118, 47, 118, 50, 47]⟩ : ByteArray) ++ a0_0) ++ (⟨#[47]⟩ : ByteArray)) ++ a0_1) ++ (⟨#[47]⟩ : ByteArray)).size + a0_2.size ≤ 9223372036854775807 then (some ((((((⟨#[117, 97, 103, 118, 47, 118, 50, 47]⟩ : ByteArray) ++ a0_0) ++ (⟨#[47]⟩ : ByteArray)) ++ a0_1) ++ (⟨#[47]⟩ : ByteArray)) ++ a0_2, 0)) else (none)) else (none)) else (none)) else (none)) else (none)) else (if a0_2.toList = ([99, 111, 110, 110, 101, 99, 116, 105, 111, 110] : List UInt8) then (if 8 + a0_0.size ≤ 9223372036854775807 then (if ((⟨#[117, 97, 103, 118, 47, 118, 50, 47]⟩ : ByteArray) ++ a0_0).size + 1 ≤ 9223372036854775807 then (if (((⟨#[117, 97, 103, 118, 47, 118, 50, 47]⟩ : ByteArray) ++ a0_0) ++ (⟨#[47]⟩ : ByteArray)).size + a0_1.size ≤ 9223372036854775807 then (if ((((⟨#[117, 97, 103, 118, 47, 118, 50, 47]⟩ : ByteArray) ++ a0_0) ++ (⟨#[47]⟩ : ByteArray)) ++ a0_1).size + 1 ≤ 9223372036854775807 then (if (((((⟨#[117, 97, 103, 118, 47, 118, 50, 47]⟩ : ByteArray) ++ a0_0) ++ (⟨#[47]⟩ : ByteArray)) ++ a0_1) ++ (⟨#[47]⟩ : ByteArray)).size + a0_2.size ≤ 9223372036854775807 then (some ((((((⟨#[117, 97, 103, 118, 47, 118, 50, 47]⟩ : ByteArray) ++ a0_0) ++ (⟨#[47]⟩ : ByteArray)) ++ a0_1) ++ (⟨#[47]⟩ : ByteArray)) ++ a0_2, 0)) else (none)) else (none)) else (none)) else (none)) else (none)) else (if a0_2.toList = ([118, 105, 115, 117, 97, 108, 105, 122, 97, 116, 105, 111, 110] : List UInt8) then (if 8 + a0_0.size ≤ 9223372036854775807 then (if ((⟨#[117, 97, 103, 118, 47, 118, 50, 47]⟩ : ByteArray) ++ a0_0).size + 1 ≤ 9223372036854775807 then (if (((⟨#[117, 97, 103, 118, 47, 118, 50, 47]⟩ : ByteArray) ++ a0_0) ++ (⟨#[47]⟩ : ByteArray)).size + a0_1.size ≤ 9223372036854775807 then (if ((((⟨#[117, 97, 103, 118, 47, 118, 50, 47]⟩ : ByteArray) ++ a0_0) ++ (⟨#[47]⟩ : ByteArray)) ++ a0_1).size + 1 ≤ 9223372036854775807 then (if (((((⟨#[117, 97, 103, 118, 47, 118, 50, 47]⟩ : ByteArray) ++ a0_0) ++ (⟨#[47]⟩ : ByteArray)) ++ a0_1) ++ (⟨#[47]⟩ : ByteArray)).size + a0_2.size ≤ 9223372036854775807 then (some ((((((⟨#[117, 97, 103, 118, 47, 118, 50, 47]⟩ : ByteArray) ++ a0_0) ++ (⟨#[47]⟩ : ByteArray)) ++ a0_1) ++ (⟨#[47]⟩ : ByteArray)) ++ a0_2, 0)) else (none)) else (none)) else (none)) else (none)) else (none)) else (some ((⟨#[]⟩ : ByteArray), 70))))))) else (some ((⟨#[]⟩ : ByteArray), 70))) else (some ((⟨#[]⟩ : ByteArray), 70)))) = some (r1, r2) := H
  have A2 := Aside0.mk A20
  clear A20
  replace H := Option.bind_eq_some_iff.mp H
  obtain ⟨t141, A30, H⟩ := H
  replace H : (if t140 = true then (if t141 = true then (if a0_2.toList = ([111, 114, 100, 101, 114] : List UInt8) then (if 8 + a0_0.size ≤ 9223372036854775807 then (if ((⟨#[117, 97, 103, 118, 47, 118, 50, 47]⟩ : ByteArray) ++ a0_0).size + 1 ≤ 9223372036854775807 then (if (((⟨#[117, 97, 103, 118, 47, 118, 50, 47]⟩ : ByteArray) ++ a0_0) ++ (⟨#[47]⟩ : ByteArray)).size + a0_1.size ≤ 9223372036854775807 then (if ((((⟨#[117, 97, 103, 118, 47, 118, 50, 47]⟩ : ByteArray) ++ a0_0) ++ (⟨#[47]⟩ : ByteArray)) ++ a0_1).size + 1 ≤ 9223372036854775807 then (if (((((⟨#[117, 97, 103, 118, 47, 118, 50, 47]⟩ : ByteArray) ++ a0_0) ++ (⟨#[47]⟩ : ByteArray)) ++ a0_1) ++ (⟨#[47]⟩ : ByteArray)).size + a0_2.size ≤ 9223372036854775807 then (some ((((((⟨#[117, 97, 103, 118, 47, 118, 50, 47]⟩ : ByteArray) ++ a0_0) ++ (⟨#[47]⟩ : ByteArray)) ++ a0_1) ++ (⟨#[47]⟩ : ByteArray)) ++ a0_2, 0)) else (none)) else (none)) else (none)) else (none)) else (none)) else (if a0_2.toList = ([105, 110, 115, 116, 97, 110, 116, 65, 99, 116, 105, 111, 110, 115] : List UInt8) then (if 8 + a0_0.size ≤ 9223372036854775807 then (if ((⟨#[117, 97, 103, 118, 47, 118, 50, 47]⟩ : ByteArray) ++ a0_0).size + 1 ≤ 9223372036854775807 then (if (((⟨#[117, 97, 103, 118, 47, 118, 50, 47]⟩ : ByteArray) ++ a0_0) ++ (⟨#[47]⟩ : ByteArray)).size + a0_1.size ≤ 9223372036854775807 then (if ((((⟨#[117, 97, 103, 118, 47, 118, 50, 47]⟩ : ByteArray) ++ a0_0) ++ (⟨#[47]⟩ : ByteArray)) ++ a0_1).size + 1 ≤ 9223372036854775807 then (if (((((⟨#[117, 97, 103, 118, 47, 118, 50, 47]⟩ : ByteArray) ++ a0_0) ++ (⟨#[47]⟩ : ByteArray)) ++ a0_1) ++ (⟨#[47]⟩ : ByteArray)).size + a0_2.size ≤ 9223372036854775807 then (some ((((((⟨#[117, 97, 103, 118, 47, 118, 50, 47]⟩ : ByteArray) ++ a0_0) ++ (⟨#[47]⟩ : ByteArray)) ++ a0_1) ++ (⟨#[47]⟩ : ByteArray)) ++ a0_2, 0)) else (none)) else (none)) else (none)) else (none)) else (none)) else (if a0_2.toList = ([115, 116, 97, 116, 101] : List UInt8) then (if 8 + a0_0.size ≤ 9223372036854775807 then (if ((⟨#[117, 97, 103, 118, 47, 118, 50, 47]⟩ : ByteArray) ++ a0_0).size + 1 ≤ 9223372036854775807 then (if (((⟨#[117, 97, 103, 118, 47, 118, 50, 47]⟩ : ByteArray) ++ a0_0) ++ (⟨#[47]⟩ : ByteArray)).size + a0_1.size ≤ 9223372036854775807 then (if ((((⟨#[117, 97, 103, 118, 47, 118, 50, 47]⟩ : ByteArray) ++ a0_0) ++ (⟨#[47]⟩ : ByteArray)) ++ a0_1).size + 1 ≤ 9223372036854775807 then (if (((((⟨#[117, 97, 103, 118, 47, 118, 50, 47]⟩ : ByteArray) ++ a0_0) ++ (⟨#[47]⟩ : ByteArray)) ++ a0_1) ++ (⟨#[47]⟩ : ByteArray)).size + a0_2.size ≤ 9223372036854775807 then (some ((((((⟨#[117, 97, 103, 118, 47, 118, 50, 47]⟩ : ByteArray) ++ a0_0) ++ (⟨#[47]⟩ : ByteArray)) ++ a0_1) ++ (⟨#[47]⟩ : ByteArray)) ++ a0_2, 0)) else (none)) else (none)) else (none)) else (none)) else (none)) else (if a0_2.toList = ([99, 111, 110, 110, 101, 99, 116, 105, 111, 110] : List UInt8) then (if 8 + a0_0.size ≤ 9223372036854775807 then (if ((⟨#[117, 97, 103, 118, 47, 118, 50, 47]⟩ : ByteArray) ++ a0_0).size + 1 ≤ 9223372036854775807 then (if (((⟨#[117, 97, 103, 118, 47, 118, 50, 47]⟩ : ByteArray) ++ a0_0) ++ (⟨#[47]⟩ : ByteArray)).size + a0_1.size ≤ 9223372036854775807 then (if ((((⟨#[117, 97, 103, 118, 47, 118, 50, 47]⟩ : ByteArray) ++ a0_0) ++ (⟨#[47]⟩ : ByteArray)) ++ a0_1).size + 1 ≤ 9223372036854775807 then (if (((((⟨#[117, 97, 103, 118, 47, 118, 50, 47]⟩ : ByteArray) ++ a0_0) ++ (⟨#[47]⟩ : ByteArray)) ++ a0_1) ++ (⟨#[47]⟩ : ByteArray)).size + a0_2.size ≤ 9223372036854775807 then (some ((((((⟨#[117, 97, 103, 118, 47, 118, 50, 47]⟩ : ByteArray) ++ a0_0) ++ (⟨#[47]⟩ : ByteArray)) ++ a0_1) ++ (⟨#[47]⟩ : ByteArray)) ++ a0_2, 0)) else (none)) else (none)) else (none)) else (none)) else (none)) else (if a0_2.toList = ([118, 105, 115, 117, 97, 108, 105, 122, 97, 116, 105, 111, 110] : List UInt8) then (if 8 + a0_0.size ≤ 9223372036854775807 then (if ((⟨#[117, 97, 103, 118, 47, 118, 50, 47]⟩ : ByteArray) ++ a0_0).size + 1 ≤ 9223372036854775807 then (if (((⟨#[117, 97, 103, 118, 47, 118, 50, 47]⟩ : ByteArray) ++ a0_0) ++ (⟨#[47]⟩ : ByteArray)).size + a0_1.size ≤ 9223372036854775807 then (if ((((⟨#[117, 97, 103, 118, 47, 118, 50, 47]⟩ : ByteArray) ++ a0_0) ++ (⟨#[47]⟩ : ByteArray)) ++ a0_1).size + 1 ≤ 9223372036854775807 then (if (((((⟨#[117, 97, 103, 118, 47, 118, 50, 47]⟩ : ByteArray) ++ a0_0) ++ (⟨#[47]⟩ : ByteArray)) ++ a0_1) ++ (⟨#[47]⟩ : ByteArray)).size + a0_2.size ≤ 9223372036854775807 then (some ((((((⟨#[117, 97, 103, 118, 47, 118, 50, 47]⟩ : ByteArray) ++ a0_0) ++ (⟨#[47]⟩ : ByteArray)) ++ a0_1) ++ (⟨#[47]⟩ : ByteArray)) ++ a0_2, 0)) else (none)) else (none)) else (none)) else (none)) else (none)) else (some ((⟨#[]⟩ : ByteArray), 70))))))) else (some ((⟨#[]⟩ : ByteArray), 70))) else (some ((⟨#[]⟩ : ByteArray), 70))) = some (r1, r2) := H
  have A3 := Aside0.mk A30
  clear A30
  by_cases c4 : t140 = true
  · subst c4
    have H1 : (if t141 = true then (if a0_2.toList = ([111, 114, 100, 101, 114] : List UInt8) then (if 8 + a0_0.size ≤ 9223372036854775807 then (if ((⟨#[117, 97, 103, 118, 47, 118, 50, 47]⟩ : ByteArray) ++ a0_0).size + 1 ≤ 9223372036854775807 then (if (((⟨#[117, 97, 103, 118, 47, 118, 50, 47]⟩ : ByteArray) ++ a0_0) ++ (⟨#[47]⟩ : ByteArray)).size + a0_1.size ≤ 9223372036854775807 then (if ((((⟨#[117, 97, 103, 118, 47, 118, 50, 47]⟩ : ByteArray) ++ a0_0) ++ (⟨#[47]⟩ : ByteArray)) ++ a0_1).size + 1 ≤ 9223372036854775807 then (if (((((⟨#[117, 97, 103, 118, 47, 118, 50, 47]⟩ : ByteArray) ++ a0_0) ++ (⟨#[47]⟩ : ByteArray)) ++ a0_1) ++ (⟨#[47]⟩ : ByteArray)).size + a0_2.size ≤ 9223372036854775807 then (some ((((((⟨#[117, 97, 103, 118, 47, 118, 50, 47]⟩ : ByteArray) ++ a0_0) ++ (⟨#[47]⟩ : ByteArray)) ++ a0_1) ++ (⟨#[47]⟩ : ByteArray)) ++ a0_2, 0)) else (none)) else (none)) else (none)) else (none)) else (none)) else (if a0_2.toList = ([105, 110, 115, 116, 97, 110, 116, 65, 99, 116, 105, 111, 110, 115] : List UInt8) then (if 8 + a0_0.size ≤ 9223372036854775807 then (if ((⟨#[117, 97, 103, 118, 47, 118, 50, 47]⟩ : ByteArray) ++ a0_0).size + 1 ≤ 9223372036854775807 then (if (((⟨#[117, 97, 103, 118, 47, 118, 50, 47]⟩ : ByteArray) ++ a0_0) ++ (⟨#[47]⟩ : ByteArray)).size + a0_1.size ≤ 9223372036854775807 then (if ((((⟨#[117, 97, 103, 118, 47, 118, 50, 47]⟩ : ByteArray) ++ a0_0) ++ (⟨#[47]⟩ : ByteArray)) ++ a0_1).size + 1 ≤ 9223372036854775807 then (if (((((⟨#[117, 97, 103, 118, 47, 118, 50, 47]⟩ : ByteArray) ++ a0_0) ++ (⟨#[47]⟩ : ByteArray)) ++ a0_1) ++ (⟨#[47]⟩ : ByteArray)).size + a0_2.size ≤ 9223372036854775807 then (some ((((((⟨#[117, 97, 103, 118, 47, 118, 50, 47]⟩ : ByteArray) ++ a0_0) ++ (⟨#[47]⟩ : ByteArray)) ++ a0_1) ++ (⟨#[47]⟩ : ByteArray)) ++ a0_2, 0)) else (none)) else (none)) else (none)) else (none)) else (none)) else (if a0_2.toList = ([115, 116, 97, 116, 101] : List UInt8) then (if 8 + a0_0.size ≤ 9223372036854775807 then (if ((⟨#[117, 97, 103, 118, 47, 118, 50, 47]⟩ : ByteArray) ++ a0_0).size + 1 ≤ 9223372036854775807 then (if (((⟨#[117, 97, 103, 118, 47, 118, 50, 47]⟩ : ByteArray) ++ a0_0) ++ (⟨#[47]⟩ : ByteArray)).size + a0_1.size ≤ 9223372036854775807 then (if ((((⟨#[117, 97, 103, 118, 47, 118, 50, 47]⟩ : ByteArray) ++ a0_0) ++ (⟨#[47]⟩ : ByteArray)) ++ a0_1).size + 1 ≤ 9223372036854775807 then (if (((((⟨#[117, 97, 103, 118, 47, 118, 50, 47]⟩ : ByteArray) ++ a0_0) ++ (⟨#[47]⟩ : ByteArray)) ++ a0_1) ++ (⟨#[47]⟩ : ByteArray)).size + a0_2.size ≤ 9223372036854775807 then (some ((((((⟨#[117, 97, 103, 118, 47, 118, 50, 47]⟩ : ByteArray) ++ a0_0) ++ (⟨#[47]⟩ : ByteArray)) ++ a0_1) ++ (⟨#[47]⟩ : ByteArray)) ++ a0_2, 0)) else (none)) else (none)) else (none)) else (none)) else (none)) else (if a0_2.toList = ([99, 111, 110, 110, 101, 99, 116, 105, 111, 110] : List UInt8) then (if 8 + a0_0.size ≤ 9223372036854775807 then (if ((⟨#[117, 97, 103, 118, 47, 118, 50, 47]⟩ : ByteArray) ++ a0_0).size + 1 ≤ 9223372036854775807 then (if (((⟨#[117, 97, 103, 118, 47, 118, 50, 47]⟩ : ByteArray) ++ a0_0) ++ (⟨#[47]⟩ : ByteArray)).size + a0_1.size ≤ 9223372036854775807 then (if ((((⟨#[117, 97, 103, 118, 47, 118, 50, 47]⟩ : ByteArray) ++ a0_0) ++ (⟨#[47]⟩ : ByteArray)) ++ a0_1).size + 1 ≤ 9223372036854775807 then (if (((((⟨#[117, 97, 103, 118, 47, 118, 50, 47]⟩ : ByteArray) ++ a0_0) ++ (⟨#[47]⟩ : ByteArray)) ++ a0_1) ++ (⟨#[47]⟩ : ByteArray)).size + a0_2.size ≤ 9223372036854775807 then (some ((((((⟨#[117, 97, 103, 118, 47, 118, 50, 47]⟩ : ByteArray) ++ a0_0) ++ (⟨#[47]⟩ : ByteArray)) ++ a0_1) ++ (⟨#[47]⟩ : ByteArray)) ++ a0_2, 0)) else (none)) else (none)) else (none)) else (none)) else (none)) else (if a0_2.toList = ([118, 105, 115, 117, 97, 108, 105, 122, 97, 116, 105, 111, 110] : List UInt8) then (if 8 + a0_0.size ≤ 9223372036854775807 then (if ((⟨#[117, 97, 103, 118, 47, 118, 50, 47]⟩ : ByteArray) ++ a0_0).size + 1 ≤ 9223372036854775807 then (if (((⟨#[117, 97, 103, 118, 47, 118, 50, 47]⟩ : ByteArray) ++ a0_0) ++ (⟨#[47]⟩ : ByteArray)).size + a0_1.size ≤ 9223372036854775807 then (if ((((⟨#[117, 97, 103, 118, 47, 118, 50, 47]⟩ : ByteArray) ++ a0_0) ++ (⟨#[47]⟩ : ByteArray)) ++ a0_1).size + 1 ≤ 9223372036854775807 then (if (((((⟨#[117, 97, 103, 118, 47, 118, 50, 47]⟩ : ByteArray) ++ a0_0) ++ (⟨#[47]⟩ : ByteArray)) ++ a0_1) ++ (⟨#[47]⟩ : ByteArray)).size + a0_2.size ≤ 9223372036854775807 then (some ((((((⟨#[117, 97, 103, 118, 47, 118, 50, 47]⟩ : ByteArray) ++ a0_0) ++ (⟨#[47]⟩ : ByteArray)) ++ a0_1) ++ (⟨#[47]⟩ : ByteArray)) ++ a0_2, 0)) else (none)) else (none)) else (none)) else (none)) else (none)) else (some ((⟨#[]⟩ : ByteArray), 70))))))) else (some ((⟨#[]⟩ : ByteArray), 70))) = some (r1, r2) := by rw [if_pos rfl] at H; exact H
    clear H
    have H := H1
    clear H1
    by_cases c5 : t141 = true
    · subst c5
      have H1 : (if a0_2.toList = ([111, 114, 100, 101, 114] : List UInt8) then (if 8 + a0_0.size ≤ 9223372036854775807 then (if ((⟨#[117, 97, 103, 118, 47, 118, 50, 47]⟩ : ByteArray) ++ a0_0).size + 1 ≤ 9223372036854775807 then (if (((⟨#[117, 97, 103, 118, 47, 118, 50, 47]⟩ : ByteArray) ++ a0_0) ++ (⟨#[47]⟩ : ByteArray)).size + a0_1.size ≤ 9223372036854775807 then (if ((((⟨#[117, 97, 103, 118, 47, 118, 50, 47]⟩ : ByteArray) ++ a0_0) ++ (⟨#[47]⟩ : ByteArray)) ++ a0_1).size + 1 ≤ 9223372036854775807 then (if (((((⟨#[117, 97, 103, 118, 47, 118, 50, 47]⟩ : ByteArray) ++ a0_0) ++ (⟨#[47]⟩ : ByteArray)) ++ a0_1) ++ (⟨#[47]⟩ : ByteArray)).size + a0_2.size ≤ 9223372036854775807 then (some ((((((⟨#[117, 97, 103, 118, 47, 118, 50, 47]⟩ : ByteArray) ++ a0_0) ++ (⟨#[47]⟩ : ByteArray)) ++ a0_1) ++ (⟨#[47]⟩ : ByteArray)) ++ a0_2, 0)) else (none)) else (none)) else (none)) else (none)) else (none)) else (if a0_2.toList = ([105, 110, 115, 116, 97, 110, 116, 65, 99, 116, 105, 111, 110, 115] : List UInt8) then (if 8 + a0_0.size ≤ 9223372036854775807 then (if ((⟨#[117, 97, 103, 118, 47, 118, 50, 47]⟩ : ByteArray) ++ a0_0).size + 1 ≤ 9223372036854775807 then (if (((⟨#[117, 97, 103, 118, 47, 118, 50, 47]⟩ : ByteArray) ++ a0_0) ++ (⟨#[47]⟩ : ByteArray)).size + a0_1.size ≤ 9223372036854775807 then (if ((((⟨#[117, 97, 103, 118, 47, 118, 50, 47]⟩ : ByteArray) ++ a0_0) ++ (⟨#[47]⟩ : ByteArray)) ++ a0_1).size + 1 ≤ 9223372036854775807 then (if (((((⟨#[117, 97, 103, 118, 47, 118, 50, 47]⟩ : ByteArray) ++ a0_0) ++ (⟨#[47]⟩ : ByteArray)) ++ a0_1) ++ (⟨#[47]⟩ : ByteArray)).size + a0_2.size ≤ 9223372036854775807 then (some ((((((⟨#[117, 97, 103, 118, 47, 118, 50, 47]⟩ : ByteArray) ++ a0_0) ++ (⟨#[47]⟩ : ByteArray)) ++ a0_1) ++ (⟨#[47]⟩ : ByteArray)) ++ a0_2, 0)) else (none)) else (none)) else (none)) else (none)) else (none)) else (if a0_2.toList = ([115, 116, 97, 116, 101] : List UInt8) then (if 8 + a0_0.size ≤ 9223372036854775807 then (if ((⟨#[117, 97, 103, 118, 47, 118, 50, 47]⟩ : ByteArray) ++ a0_0).size + 1 ≤ 9223372036854775807 then (if (((⟨#[117, 97, 103, 118, 47, 118, 50, 47]⟩ : ByteArray) ++ a0_0) ++ (⟨#[47]⟩ : ByteArray)).size + a0_1.size ≤ 9223372036854775807 then (if ((((⟨#[117, 97, 103, 118, 47, 118, 50, 47]⟩ : ByteArray) ++ a0_0) ++ (⟨#[47]⟩ : ByteArray)) ++ a0_1).size + 1 ≤ 9223372036854775807 then (if (((((⟨#[117, 97, 103, 118, 47, 118, 50, 47]⟩ : ByteArray) ++ a0_0) ++ (⟨#[47]⟩ : ByteArray)) ++ a0_1) ++ (⟨#[47]⟩ : ByteArray)).size + a0_2.size ≤ 9223372036854775807 then (some ((((((⟨#[117, 97, 103, 118, 47, 118, 50, 47]⟩ : ByteArray) ++ a0_0) ++ (⟨#[47]⟩ : ByteArray)) ++ a0_1) ++ (⟨#[47]⟩ : ByteArray)) ++ a0_2, 0)) else (none)) else (none)) else (none)) else (none)) else (none)) else (if a0_2.toList = ([99, 111, 110, 110, 101, 99, 116, 105, 111, 110] : List UInt8) then (if 8 + a0_0.size ≤ 9223372036854775807 then (if ((⟨#[117, 97, 103, 118, 47, 118, 50, 47]⟩ : ByteArray) ++ a0_0).size + 1 ≤ 9223372036854775807 then (if (((⟨#[117, 97, 103, 118, 47, 118, 50, 47]⟩ : ByteArray) ++ a0_0) ++ (⟨#[47]⟩ : ByteArray)).size + a0_1.size ≤ 9223372036854775807 then (if ((((⟨#[117, 97, 103, 118, 47, 118, 50, 47]⟩ : ByteArray) ++ a0_0) ++ (⟨#[47]⟩ : ByteArray)) ++ a0_1).size + 1 ≤ 9223372036854775807 then (if (((((⟨#[117, 97, 103, 118, 47, 118, 50, 47]⟩ : ByteArray) ++ a0_0) ++ (⟨#[47]⟩ : ByteArray)) ++ a0_1) ++ (⟨#[47]⟩ : ByteArray)).size + a0_2.size ≤ 9223372036854775807 then (some ((((((⟨#[117, 97, 103, 118, 47, 118, 50, 47]⟩ : ByteArray) ++ a0_0) ++ (⟨#[47]⟩ : ByteArray)) ++ a0_1) ++ (⟨#[47]⟩ : ByteArray)) ++ a0_2, 0)) else (none)) else (none)) else (none)) else (none)) else (none)) else (if a0_2.toList = ([118, 105, 115, 117, 97, 108, 105, 122, 97, 116, 105, 111, 110] : List UInt8) then (if 8 + a0_0.size ≤ 9223372036854775807 then (if ((⟨#[117, 97, 103, 118, 47, 118, 50, 47]⟩ : ByteArray) ++ a0_0).size + 1 ≤ 9223372036854775807 then (if (((⟨#[117, 97, 103, 118, 47, 118, 50, 47]⟩ : ByteArray) ++ a0_0) ++ (⟨#[47]⟩ : ByteArray)).size + a0_1.size ≤ 9223372036854775807 then (if ((((⟨#[117, 97, 103, 118, 47, 118, 50, 47]⟩ : ByteArray) ++ a0_0) ++ (⟨#[47]⟩ : ByteArray)) ++ a0_1).size + 1 ≤ 9223372036854775807 then (if (((((⟨#[117, 97, 103, 118, 47, 118, 50, 47]⟩ : ByteArray) ++ a0_0) ++ (⟨#[47]⟩ : ByteArray)) ++ a0_1) ++ (⟨#[47]⟩ : ByteArray)).size + a0_2.size ≤ 9223372036854775807 then (some ((((((⟨#[117, 97, 103, 118, 47, 118, 50, 47]⟩ : ByteArray) ++ a0_0) ++ (⟨#[47]⟩ : ByteArray)) ++ a0_1) ++ (⟨#[47]⟩ : ByteArray)) ++ a0_2, 0)) else (none)) else (none)) else (none)) else (none)) else (none)) else (some ((⟨#[]⟩ : ByteArray), 70))))))) = some (r1, r2) := by rw [if_pos rfl] at H; exact H
      clear H
      have H := H1
      clear H1
      by_cases c6 : a0_2.toList = ([111, 114, 100, 101, 114] : List UInt8)
      · rw [if_pos c6] at H
        have c6b0 : (a0_2.toList == ([111, 114, 100, 101, 114] : List UInt8)) = true := beq_iff_eq.mpr c6
        have c6b1 : (a0_2.toList != ([111, 114, 100, 101, 114] : List UInt8)) = false := bne_eq_false_iff_eq.mpr c6
        clear c6
        by_cases c7 : 8 + a0_0.size ≤ 9223372036854775807
        · rw [if_pos c7] at H
          have c7b0 := eq_true c7
          have c7b1 : decide (8 + a0_0.size ≤ 9223372036854775807) = true := decide_eq_true c7
          try have c7b2 : (9223372036854775807 < 8 + a0_0.size) = False := eq_false (Nat.not_lt.2 c7)
          by_cases c8 : ((⟨#[117, 97, 103, 118, 47, 118, 50, 47]⟩ : ByteArray) ++ a0_0).size + 1 ≤ 9223372036854775807
          · rw [if_pos c8] at H
            have c8b0 := eq_true c8
            have c8b1 : decide (((⟨#[117, 97, 103, 118, 47, 118, 50, 47]⟩ : ByteArray) ++ a0_0).size + 1 ≤ 9223372036854775807) = true := decide_eq_true c8
            try have c8b2 : (9223372036854775807 < ((⟨#[117, 97, 103, 118, 47, 118, 50, 47]⟩ : ByteArray) ++ a0_0).size + 1) = False := eq_false (Nat.not_lt.2 c8)
            have c8b3 : ¬ (9223372036854775807 < 8 + a0_0.size + 1) := by -- SIZES
              have z_ := c8
              simp only [ByteArray.size_append, ByteArray.size_extract] at z_
              have u0_ : (⟨#[117, 97, 103, 118, 47, 118, 50, 47]⟩ : ByteArray).size = 8 := rfl
              clear c8b0 c8b1
              omega
            by_cases c9 : (((⟨#[117, 97, 103, 118, 47, 118, 50, 47]⟩ : ByteArray) ++ a0_0) ++ (⟨#[47]⟩ : ByteArray)).size + a0_1.size ≤ 9223372036854775807
            · rw [if_pos c9] at H
              have c9b0 := eq_true c9
              have c9b1 : decide ((((⟨#[117, 97, 103, 118, 47, 118, 50, 47]⟩ : ByteArray) ++ a0_0) ++ (⟨#[47]⟩ : ByteArray)).size + a0_1.size ≤ 9223372036854775807) = true := decide_eq_true c9
              try have c9b2 : (9223372036854775807 < (((⟨#[117, 97, 103, 118, 47, 118, 50, 47]⟩ : ByteArray) ++ a0_0) ++ (⟨#[47]⟩ : ByteArray)).size + a0_1.size) = False := eq_false (Nat.not_lt.2 c9)
              have c9b3 : ¬ (9223372036854775807 < 8 + a0_0.size + 1 + a0_1.size) := by -- SIZES
                have z_ := c9
                simp only [ByteArray.size_append, ByteArray.size_extract] at z_
                have u0_ : (⟨#[117, 97, 103, 118, 47, 118, 50, 47]⟩ : ByteArray).size = 8 := rfl
                have u1_ : (⟨#[47]⟩ : ByteArray).size = 1 := rfl
                clear c9b0 c9b1
                omega
              by_cases c10 : ((((⟨#[117, 97, 103, 118, 47, 118, 50, 47]⟩ : ByteArray) ++ a0_0) ++ (⟨#[47]⟩ : ByteArray)) ++ a0_1).size + 1 ≤ 9223372036854775807
              · rw [if_pos c10] at H
                have c10b0 := eq_true c10
                have c10b1 : decide (((((⟨#[117, 97, 103, 118, 47, 118, 50, 47]⟩ : ByteArray) ++ a0_0) ++ (⟨#[47]⟩ : ByteArray)) ++ a0_1).size + 1 ≤ 9223372036854775807) = true := decide_eq_true c10
                try have c10b2 : (9223372036854775807 < ((((⟨#[117, 97, 103, 118, 47, 118, 50, 47]⟩ : ByteArray) ++ a0_0) ++ (⟨#[47]⟩ : ByteArray)) ++ a0_1).size + 1) = False := eq_false (Nat.not_lt.2 c10)
                have c10b3 : ¬ (9223372036854775807 < 8 + a0_0.size + 1 + a0_1.size + 1) := by -- SIZES
                  have z_ := c10
                  simp only [ByteArray.size_append, ByteArray.size_extract] at z_
                  have u0_ : (⟨#[117, 97, 103, 118, 47, 118, 50, 47]⟩ : ByteArray).size = 8 := rfl
                  have u1_ : (⟨#[47]⟩ : ByteArray).size = 1 := rfl
                  clear c10b0 c10b1
                  omega
                by_cases c11 : (((((⟨#[117, 97, 103, 118, 47, 118, 50, 47]⟩ : ByteArray) ++ a0_0) ++ (⟨#[47]⟩ : ByteArray)) ++ a0_1) ++ (⟨#[47]⟩ : ByteArray)).size + a0_2.size ≤ 9223372036854775807
                · rw [if_pos c11] at H
                  have c11b0 := eq_true c11
                  have c11b1 : decide ((((((⟨#[117, 97, 103, 118, 47, 118, 50, 47]⟩ : ByteArray) ++ a0_0) ++ (⟨#[47]⟩ : ByteArray)) ++ a0_1) ++ (⟨#[47]⟩ : ByteArray)).size + a0_2.size ≤ 9223372036854775807) = true := decide_eq_true c11
                  try have c11b2 : (9223372036854775807 < (((((⟨#[117, 97, 103, 118, 47, 118, 50, 47]⟩ : ByteArray) ++ a0_0) ++ (⟨#[47]⟩ : ByteArray)) ++ a0_1) ++ (⟨#[47]⟩ : ByteArray)).size + a0_2.size) = False := eq_false (Nat.not_lt.2 c11)
                  have c11b3 : ¬ (9223372036854775807 < 8 + a0_0.size + 1 + a0_1.size + 1 + a0_2.size) := by -- SIZES
                    have z_ := c11
                    simp only [ByteArray.size_append, ByteArray.size_extract] at z_
                    have u0_ : (⟨#[117, 97, 103, 118, 47, 118, 50, 47]⟩ : ByteArray).size = 8 := rfl
                    have u1_ : (⟨#[47]⟩ : ByteArray).size = 1 := rfl
                    clear c11b0 c11b1
                    omega
                  simp only [Option.some.injEq, Prod.mk.injEq] at H
                  obtain ⟨rfl, rfl⟩ := H
                  go_enter Tryd.func9, Tryd.ntmps9
                  go_wp2_with (first | ((with_reducible refine gate_dst (N := 1) rfl ?_); refine box_event ?hg (N := 1) ?hd (cs := #[.string a0_0, .string a0_1, .string a0_2]) (t := 23) ?hr ?_; (case hd => rfl); (case hg => rfl); (case hr => first | (go_simp; done) | (go_simp; rfl)); intro gb139 hg w12 hbox hb; have n0_ := Aside0.mk (below_step (by repeat (first | (with_reducible first | exact HB.out | apply below_alloc | apply pw_below_drewN | apply below_drew1) | exact HB.out)) hb); have n1_ := Aside0.mk (hbox); have n2_ := Aside0.mk ((by rw [hg]; exact (below_size (by repeat (first | (with_reducible first | exact HB.out | apply below_alloc | apply pw_below_drewN | apply below_drew1) | exact HB.out))) : w.heap.size ≤ gb139)); have n3_ := Aside0.mk ((by rw [hg]; exact (below_size (by repeat (first | (with_reducible first | exact HB.out | apply below_alloc | apply pw_below_drewN | apply below_drew1) | exact HB.out))) : w.heap.size ≤ gb139)); clear HB; have HB := n0_; have BK139 := n1_; have GW139 := n2_; have GE139 := n3_; clear n0_ n1_ n2_ n3_; clear hb hbox hg; have hcz13_0 : w12.cell? ⟨gb139, 0, none⟩ = some (.string a0_0) := (blk_cell BK139.out 0).trans rfl; have hcz13_1 : w12.cell? ⟨gb139, 1, none⟩ = some (.string a0_1) := (blk_cell BK139.out 1).trans rfl; have hcz13_2 : w12.cell? ⟨gb139, 2, none⟩ = some (.string a0_2) := (blk_cell BK139.out 2).trans rfl; have hfz13_0 := blk_frozen BK139.out 0; have hfz13_1 := blk_frozen BK139.out 1; have hfz13_2 := blk_frozen BK139.out 2) | ((with_reducible refine gate_callee (f := 13) rfl ?_); refine goesL_ (some 9) rfl rfl Tryd.func13 (by kernel_rfl) rfl #[.string a0_0] rfl (by (try simp only [List.map_toArray, List.map_cons, List.map_nil]); first | done | rfl | (simp only [List.length_drop, List.length_take]; rfl)) ?_; (with_reducible refine (humpyardref07_Name.calls k a0_0 true _ A2.out).mono ?_); rintro e w' ⟨rfl, ⟨nd, rfl⟩⟩; refine ⟨_, rfl, ?_⟩) | ((with_reducible refine gate_callee (f := 13) rfl ?_); refine goesL_ (some 12) rfl rfl Tryd.func13 (by kernel_rfl) rfl #[.string a0_1] rfl (by (try simp only [List.map_toArray, List.map_cons, List.map_nil]); first | done | rfl | (simp only [List.length_drop, List.length_take]; rfl)) ?_; (with_reducible refine (humpyardref07_Name.calls k a0_1 true _ A3.out).mono ?_); rintro e w' ⟨rfl, ⟨nd, rfl⟩⟩; refine ⟨_, rfl, ?_⟩))
                  go_ret2
                  exact ⟨by first | rfl | (simp [errW_none, errW_some] <;> rfl) | (simp [*, errW_none, errW_some] <;> rfl), by repeat (first | (with_reducible first | exact HB.out | apply below_alloc | apply pw_below_drewN | apply below_drew1 | refine below_set ?_ GE139.out) | exact HB.out)⟩
                · rw [if_neg c11] at H
                  exact absurd H (by simp)
              · rw [if_neg c10] at H
                exact absurd H (by simp)
            · rw [if_neg c9] at H
              exact absurd H (by simp)
          · rw [if_neg c8] at H
            exact absurd H (by simp)
        · rw [if_neg c7] at H
          exact absurd H (by simp)
      · rw [if_neg c6] at H
        have c6b0 : (a0_2.toList == ([111, 114, 100, 101, 114] : List UInt8)) = false := beq_eq_false_iff_ne.mpr c6
        have c6b1 : (a0_2.toList != ([111, 114, 100, 101, 114] : List UInt8)) = true := bne_iff_ne.mpr c6
        by_cases c14 : a0_2.toList = ([105, 110, 115, 116, 97, 110, 116, 65, 99, 116, 105, 111, 110, 115] : List UInt8)
        · rw [if_pos c14] at H
          have c14b0 : (a0_2.toList == ([105, 110, 115, 116, 97, 110, 116, 65, 99, 116, 105, 111, 110, 115] : List UInt8)) = true := beq_iff_eq.mpr c14
          have c14b1 : (a0_2.toList != ([105, 110, 115, 116, 97, 110, 116, 65, 99, 116, 105, 111, 110, 115] : List UInt8)) = false := bne_eq_false_iff_eq.mpr c14
          clear c14
          by_cases c15 : 8 + a0_0.size ≤ 9223372036854775807
          · rw [if_pos c15] at H
            have c15b0 := eq_true c15
            have c15b1 : decide (8 + a0_0.size ≤ 9223372036854775807) = true := decide_eq_true c15
            try have c15b2 : (9223372036854775807 < 8 + a0_0.size) = False := eq_false (Nat.not_lt.2 c15)
            by_cases c16 : ((⟨#[117, 97, 103, 118, 47, 118, 50, 47]⟩ : ByteArray) ++ a0_0).size + 1 ≤ 9223372036854775807
            · rw [if_pos c16] at H
              have c16b0 := eq_true c16
              have c16b1 : decide (((⟨#[117, 97, 103, 118, 47, 118, 50, 47]⟩ : ByteArray) ++ a0_0).size + 1 ≤ 9223372036854775807) = true := decide_eq_true c16
              try have c16b2 : (9223372036854775807 < ((⟨#[117, 97, 103, 118, 47, 118, 50, 47]⟩ : ByteArray) ++ a0_0).size + 1) = False := eq_false (Nat.not_lt.2 c16)
              have c16b3 : ¬ (9223372036854775807 < 8 + a0_0.size + 1) := by -- SIZES
                have z_ := c16
                simp only [ByteArray.size_append, ByteArray.size_extract] at z_
                have u0_ : (⟨#[117, 97, 103, 118, 47, 118, 50, 47]⟩ : ByteArray).size = 8 := rfl
                clear c16b0 c16b1
                omega
              by_cases c17 : (((⟨#[117, 97, 103, 118, 47, 118, 50, 47]⟩ : ByteArray) ++ a0_0) ++ (⟨#[47]⟩ : ByteArray)).size + a0_1.size ≤ 9223372036854775807
              · rw [if_pos c17] at H
                have c17b0 := eq_true c17
                have c17b1 : decide ((((⟨#[117, 97, 103, 118, 47, 118, 50, 47]⟩ : ByteArray) ++ a0_0) ++ (⟨#[47]⟩ : ByteArray)).size + a0_1.size ≤ 9223372036854775807) = true := decide_eq_true c17
                try have c17b2 : (9223372036854775807 < (((⟨#[117, 97, 103, 118, 47, 118, 50, 47]⟩ : ByteArray) ++ a0_0) ++ (⟨#[47]⟩ : ByteArray)).size + a0_1.size) = False := eq_false (Nat.not_lt.2 c17)
                have c17b3 : ¬ (9223372036854775807 < 8 + a0_0.size + 1 + a0_1.size) := by -- SIZES
                  have z_ := c17
                  simp only [ByteArray.size_append, ByteArray.size_extract] at z_
                  have u0_ : (⟨#[117, 97, 103, 118, 47, 118, 50, 47]⟩ : ByteArray).size = 8 := rfl
                  have u1_ : (⟨#[47]⟩ : ByteArray).size = 1 := rfl
                  clear c17b0 c17b1
                  omega
                by_cases c18 : ((((⟨#[117, 97, 103, 118, 47, 118, 50, 47]⟩ : ByteArray) ++ a0_0) ++ (⟨#[47]⟩ : ByteArray)) ++ a0_1).size + 1 ≤ 9223372036854775807
                · rw [if_pos c18] at H
                  have c18b0 := eq_true c18
                  have c18b1 : decide (((((⟨#[117, 97, 103, 118, 47, 118, 50, 47]⟩ : ByteArray) ++ a0_0) ++ (⟨#[47]⟩ : ByteArray)) ++ a0_1).size + 1 ≤ 9223372036854775807) = true := decide_eq_true c18
                  try have c18b2 : (9223372036854775807 < ((((⟨#[117, 97, 103, 118, 47, 118, 50, 47]⟩ : ByteArray) ++ a0_0) ++ (⟨#[47]⟩ : ByteArray)) ++ a0_1).size + 1) = False := eq_false (Nat.not_lt.2 c18)
                  have c18b3 : ¬ (9223372036854775807 < 8 + a0_0.size + 1 + a0_1.size + 1) := by -- SIZES
                    have z_ := c18
                    simp only [ByteArray.size_append, ByteArray.size_extract] at z_
                    have u0_ : (⟨#[117, 97, 103, 118, 47, 118, 50, 47]⟩ : ByteArray).size = 8 := rfl
                    have u1_ : (⟨#[47]⟩ : ByteArray).size = 1 := rfl
                    clear c18b0 c18b1
                    omega
                  by_cases c19 : (((((⟨#[117, 97, 103, 118, 47, 118, 50, 47]⟩ : ByteArray) ++ a0_0) ++ (⟨#[47]⟩ : ByteArray)) ++ a0_1) ++ (⟨#[47]⟩ : ByteArray)).size + a0_2.size ≤ 9223372036854775807
                  · rw [if_pos c19] at H
                    have c19b0 := eq_true c19
                    have c19b1 : decide ((((((⟨#[117, 97, 103, 118, 47, 118, 50, 47]⟩ : ByteArray) ++ a0_0) ++ (⟨#[47]⟩ : ByteArray)) ++ a0_1) ++ (⟨#[47]⟩ : ByteArray)).size + a0_2.size ≤ 9223372036854775807) = true := decide_eq_true c19
                    try have c19b2 : (9223372036854775807 < (((((⟨#[117, 97, 103, 118, 47, 118, 50, 47]⟩ : ByteArray) ++ a0_0) ++ (⟨#[47]⟩ : ByteArray)) ++ a0_1) ++ (⟨#[47]⟩ : ByteArray)).size + a0_2.size) = False := eq_false (Nat.not_lt.2 c19)
                    have c19b3 : ¬ (9223372036854775807 < 8 + a0_0.size + 1 + a0_1.size + 1 + a0_2.size) := by -- SIZES
                      have z_ := c19
                      simp only [ByteArray.size_append, ByteArray.size_extract] at z_
                      have u0_ : (⟨#[117, 97, 103, 118, 47, 118, 50, 47]⟩ : ByteArray).size = 8 := rfl
                      have u1_ : (⟨#[47]⟩ : ByteArray).size = 1 := rfl
                      clear c19b0 c19b1
                      omega
                    simp only [Option.some.injEq, Prod.mk.injEq] at H
                    obtain ⟨rfl, rfl⟩ := H
                    go_enter Tryd.func9, Tryd.ntmps9
                    go_wp2_with (first | ((with_reducible refine gate_dst (N := 1) rfl ?_); refine box_event ?hg (N := 1) ?hd (cs := #[.string a0_0, .string a0_1, .string a0_2]) (t := 23) ?hr ?_; (case hd => rfl); (case hg => rfl); (case hr => first | (go_simp; done) | (go_simp; rfl)); intro gb139 hg w20 hbox hb; have n0_ := Aside0.mk (below_step (by repeat (first | (with_reducible first | exact HB.out | apply below_alloc | apply pw_below_drewN | apply below_drew1) | exact HB.out)) hb); have n1_ := Aside0.mk (hbox); have n2_ := Aside0.mk ((by rw [hg]; exact (below_size (by repeat (first | (with_reducible first | exact HB.out | apply below_alloc | apply pw_below_drewN | apply below_drew1) | exact HB.out))) : w.heap.size ≤ gb139)); have n3_ := Aside0.mk ((by rw [hg]; exact (below_size (by repeat (first | (with_reducible first | exact HB.out | apply below_alloc | apply pw_below_drewN | apply below_drew1) | exact HB.out))) : w.heap.size ≤ gb139)); clear HB; have HB := n0_; have BK139 := n1_; have GW139 := n2_; have GE139 := n3_; clear n0_ n1_ n2_ n3_; clear hb hbox hg; have hcz21_0 : w20.cell? ⟨gb139, 0, none⟩ = some (.string a0_0) := (blk_cell BK139.out 0).trans rfl; have hcz21_1 : w20.cell? ⟨gb139, 1, none⟩ = some (.string a0_1) := (blk_cell BK139.out 1).trans rfl; have hcz21_2 : w20.cell? ⟨gb139, 2, none⟩ = some (.string a0_2) := (blk_cell BK139.out 2).trans rfl; have hfz21_0 := blk_frozen BK139.out 0; have hfz21_1 := blk_frozen BK139.out 1; have hfz21_2 := blk_frozen BK139.out 2) | ((with_reducible refine gate_callee (f := 13) rfl ?_); refine goesL_ (some 9) rfl rfl Tryd.func13 (by kernel_rfl) rfl #[.string a0_0] rfl (by (try simp only [List.map_toArray, List.map_cons, List.map_nil]); first | done | rfl | (simp only [List.length_drop, List.length_take]; rfl)) ?_; (with_reducible refine (humpyardref07_Name.calls k a0_0 true _ A2.out).mono ?_); rintro e w' ⟨rfl, ⟨nd, rfl⟩⟩; refine ⟨_, rfl, ?_⟩) | ((with_reducible refine gate_callee (f := 13) rfl ?_); refine goesL_ (some 12) rfl rfl Tryd.func13 (by kernel_rfl) rfl #[.string a0_1] rfl (by (try simp only [List.map_toArray, List.map_cons, List.map_nil]); first | done | rfl | (simp only [List.length_drop, List.length_take]; rfl)) ?_; (with_reducible refine (humpyardref07_Name.calls k a0_1 true _ A3.out).mono ?_); rintro e w' ⟨rfl, ⟨nd, rfl⟩⟩; refine ⟨_, rfl, ?_⟩))
                    go_ret2
                    exact ⟨by first | rfl | (simp [errW_none, errW_some] <;> rfl) | (simp [*, errW_none, errW_some] <;> rfl), by repeat (first | (with_reducible first | exact HB.out | apply below_alloc | apply pw_below_drewN | apply below_drew1 | refine below_set ?_ GE139.out) | exact HB.out)⟩
                  · rw [if_neg c19] at H
                    exact absurd H (by simp)
                · rw [if_neg c18] at H
                  exact absurd H (by simp)
              · rw [if_neg c17] at H
                exact absurd H (by simp)
            · rw [if_neg c16] at H
              exact absurd H (by simp)
          · rw [if_neg c15] at H
            exact absurd H (by simp)
        · rw [if_neg c14] at H
          have c14b0 : (a0_2.toList == ([105, 110, 115, 116, 97, 110, 116, 65, 99, 116, 105, 111, 110, 115] : List UInt8)) = false := beq_eq_false_iff_ne.mpr c14
          have c14b1 : (a0_2.toList != ([105, 110, 115, 116, 97, 110, 116, 65, 99, 116, 105, 111, 110, 115] : List UInt8)) = true := bne_iff_ne.mpr c14
          by_cases c22 : a0_2.toList = ([115, 116, 97, 116, 101] : List UInt8)
          · rw [if_pos c22] at H
            have c22b0 : (a0_2.toList == ([115, 116, 97, 116, 101] : List UInt8)) = true := beq_iff_eq.mpr c22
            have c22b1 : (a0_2.toList != ([115, 116, 97, 116, 101] : List UInt8)) = false := bne_eq_false_iff_eq.mpr c22
            clear c22
            by_cases c23 : 8 + a0_0.size ≤ 9223372036854775807
            · rw [if_pos c23] at H
              have c23b0 := eq_true c23
              have c23b1 : decide (8 + a0_0.size ≤ 9223372036854775807) = true := decide_eq_true c23
              try have c23b2 : (9223372036854775807 < 8 + a0_0.size) = False := eq_false (Nat.not_lt.2 c23)
              by_cases c24 : ((⟨#[117, 97, 103, 118, 47, 118, 50, 47]⟩ : ByteArray) ++ a0_0).size + 1 ≤ 9223372036854775807
              · rw [if_pos c24] at H
                have c24b0 := eq_true c24
                have c24b1 : decide (((⟨#[117, 97, 103, 118, 47, 118, 50, 47]⟩ : ByteArray) ++ a0_0).size + 1 ≤ 9223372036854775807) = true := decide_eq_true c24
                try have c24b2 : (9223372036854775807 < ((⟨#[117, 97, 103, 118, 47, 118, 50, 47]⟩ : ByteArray) ++ a0_0).size + 1) = False := eq_false (Nat.not_lt.2 c24)
                have c24b3 : ¬ (9223372036854775807 < 8 + a0_0.size + 1) := by -- SIZES
                  have z_ := c24
                  simp only [ByteArray.size_append, ByteArray.size_extract] at z_
                  have u0_ : (⟨#[117, 97, 103, 118, 47, 118, 50, 47]⟩ : ByteArray).size = 8 := rfl
                  clear c24b0 c24b1
                  omega
                by_cases c25 : (((⟨#[117, 97, 103, 118, 47, 118, 50, 47]⟩ : ByteArray) ++ a0_0) ++ (⟨#[47]⟩ : ByteArray)).size + a0_1.size ≤ 9223372036854775807
                · rw [if_pos c25] at H
                  have c25b0 := eq_true c25
                  have c25b1 : decide ((((⟨#[117, 97, 103, 118, 47, 118, 50, 47]⟩ : ByteArray) ++ a0_0) ++ (⟨#[47]⟩ : ByteArray)).size + a0_1.size ≤ 9223372036854775807) = true := decide_eq_true c25
                  try have c25b2 : (9223372036854775807 < (((⟨#[117, 97, 103, 118, 47, 118, 50, 47]⟩ : ByteArray) ++ a0_0) ++ (⟨#[47]⟩ : ByteArray)).size + a0_1.size) = False := eq_false (Nat.not_lt.2 c25)
                  have c25b3 : ¬ (9223372036854775807 < 8 + a0_0.size + 1 + a0_1.size) := by -- SIZES
                    have z_ := c25
                    simp only [ByteArray.size_append, ByteArray.size_extract] at z_
                    have u0_ : (⟨#[117, 97, 103, 118, 47, 118, 50, 47]⟩ : ByteArray).size = 8 := rfl
                    have u1_ : (⟨#[47]⟩ : ByteArray).size = 1 := rfl
                    clear c25b0 c25b1
                    omega
                  by_cases c26 : ((((⟨#[117, 97, 103, 118, 47, 118, 50, 47]⟩ : ByteArray) ++ a0_0) ++ (⟨#[47]⟩ : ByteArray)) ++ a0_1).size + 1 ≤ 9223372036854775807
                  · rw [if_pos c26] at H
                    have c26b0 := eq_true c26
                    have c26b1 : decide (((((⟨#[117, 97, 103, 118, 47, 118, 50, 47]⟩ : ByteArray) ++ a0_0) ++ (⟨#[47]⟩ : ByteArray)) ++ a0_1).size + 1 ≤ 9223372036854775807) = true := decide_eq_true c26
                    try have c26b2 : (9223372036854775807 < ((((⟨#[117, 97, 103, 118, 47, 118, 50, 47]⟩ : ByteArray) ++ a0_0) ++ (⟨#[47]⟩ : ByteArray)) ++ a0_1).size + 1) = False := eq_false (Nat.not_lt.2 c26)
                    have c26b3 : ¬ (9223372036854775807 < 8 + a0_0.size + 1 + a0_1.size + 1) := by -- SIZES
                      have z_ := c26
                      simp only [ByteArray.size_append, ByteArray.size_extract] at z_
                      have u0_ : (⟨#[117, 97, 103, 118, 47, 118, 50, 47]⟩ : ByteArray).size = 8 := rfl
                      have u1_ : (⟨#[47]⟩ : ByteArray).size = 1 := rfl
                      clear c26b0 c26b1
                      omega
                    by_cases c27 : (((((⟨#[117, 97, 103, 118, 47, 118, 50, 47]⟩ : ByteArray) ++ a0_0) ++ (⟨#[47]⟩ : ByteArray)) ++ a0_1) ++ (⟨#[47]⟩ : ByteArray)).size + a0_2.size ≤ 9223372036854775807
                    · rw [if_pos c27] at H
                      have c27b0 := eq_true c27
                      have c27b1 : decide ((((((⟨#[117, 97, 103, 118, 47, 118, 50, 47]⟩ : ByteArray) ++ a0_0) ++ (⟨#[47]⟩ : ByteArray)) ++ a0_1) ++ (⟨#[47]⟩ : ByteArray)).size + a0_2.size ≤ 9223372036854775807) = true := decide_eq_true c27
                      try have c27b2 : (9223372036854775807 < (((((⟨#[117, 97, 103, 118, 47, 118, 50, 47]⟩ : ByteArray) ++ a0_0) ++ (⟨#[47]⟩ : ByteArray)) ++ a0_1) ++ (⟨#[47]⟩ : ByteArray)).size + a0_2.size) = False := eq_false (Nat.not_lt.2 c27)
                      have c27b3 : ¬ (9223372036854775807 < 8 + a0_0.size + 1 + a0_1.size + 1 + a0_2.size) := by -- SIZES
                        have z_ := c27
                        simp only [ByteArray.size_append, ByteArray.size_extract] at z_
                        have u0_ : (⟨#[117, 97, 103, 118, 47, 118, 50, 47]⟩ : ByteArray).size = 8 := rfl
                        have u1_ : (⟨#[47]⟩ : ByteArray).size = 1 := rfl
                        clear c27b0 c27b1
                        omega
                      simp only [Option.some.injEq, Prod.mk.injEq] at H
                      obtain ⟨rfl, rfl⟩ := H
                      go_enter Tryd.func9, Tryd.ntmps9
                      go_wp2_with (first | ((with_reducible refine gate_dst (N := 1) rfl ?_); refine box_event ?hg (N := 1) ?hd (cs := #[.string a0_0, .string a0_1, .string a0_2]) (t := 23) ?hr ?_; (case hd => rfl); (case hg => rfl); (case hr => first | (go_simp; done) | (go_simp; rfl)); intro gb139 hg w28 hbox hb; have n0_ := Aside0.mk (below_step (by repeat (first | (with_reducible first | exact HB.out | apply below_alloc | apply pw_below_drewN | apply below_drew1) | exact HB.out)) hb); have n1_ := Aside0.mk (hbox); have n2_ := Aside0.mk ((by rw [hg]; exact (below_size (by repeat (first | (with_reducible first | exact HB.out | apply below_alloc | apply pw_below_drewN | apply below_drew1) | exact HB.out))) : w.heap.size ≤ gb139)); have n3_ := Aside0.mk ((by rw [hg]; exact (below_size (by repeat (first | (with_reducible first | exact HB.out | apply below_alloc | apply pw_below_drewN | apply below_drew1) | exact HB.out))) : w.heap.size ≤ gb139)); clear HB; have HB := n0_; have BK139 := n1_; have GW139 := n2_; have GE139 := n3_; clear n0_ n1_ n2_ n3_; clear hb hbox hg; have hcz29_0 : w28.cell? ⟨gb139, 0, none⟩ = some (.string a0_0) := (blk_cell BK139.out 0).trans rfl; have hcz29_1 : w28.cell? ⟨gb139, 1, none⟩ = some (.string a0_1) := (blk_cell BK139.out 1).trans rfl; have hcz29_2 : w28.cell? ⟨gb139, 2, none⟩ = some (.string a0_2) := (blk_cell BK139.out 2).trans rfl; have hfz29_0 := blk_frozen BK139.out 0; have hfz29_1 := blk_frozen BK139.out 1; have hfz29_2 := blk_frozen BK139.out 2) | ((with_reducible refine gate_callee (f := 13) rfl ?_); refine goesL_ (some 9) rfl rfl Tryd.func13 (by kernel_rfl) rfl #[.string a0_0] rfl (by (try simp only [List.map_toArray, List.map_cons, List.map_nil]); first | done | rfl | (simp only [List.length_drop, List.length_take]; rfl)) ?_; (with_reducible refine (humpyardref07_Name.calls k a0_0 true _ A2.out).mono ?_); rintro e w' ⟨rfl, ⟨nd, rfl⟩⟩; refine ⟨_, rfl, ?_⟩) | ((with_reducible refine gate_callee (f := 13) rfl ?_); refine goesL_ (some 12) rfl rfl Tryd.func13 (by kernel_rfl) rfl #[.string a0_1] rfl (by (try simp only [List.map_toArray, List.map_cons, List.map_nil]); first | done | rfl | (simp only [List.length_drop, List.length_take]; rfl)) ?_; (with_reducible refine (humpyardref07_Name.calls k a0_1 true _ A3.out).mono ?_); rintro e w' ⟨rfl, ⟨nd, rfl⟩⟩; refine ⟨_, rfl, ?_⟩))
                      go_ret2
                      exact ⟨by first | rfl | (simp [errW_none, errW_some] <;> rfl) | (simp [*, errW_none, errW_some] <;> rfl), by repeat (first | (with_reducible first | exact HB.out | apply below_alloc | apply pw_below_drewN | apply below_drew1 | refine below_set ?_ GE139.out) | exact HB.out)⟩
                    · rw [if_neg c27] at H
                      exact absurd H (by simp)
                  · rw [if_neg c26] at H
                    exact absurd H (by simp)
                · rw [if_neg c25] at H
                  exact absurd H (by simp)
              · rw [if_neg c24] at H
                exact absurd H (by simp)
            · rw [if_neg c23] at H
              exact absurd H (by simp)
          · rw [if_neg c22] at H
            have c22b0 : (a0_2.toList == ([115, 116, 97, 116, 101] : List UInt8)) = false := beq_eq_false_iff_ne.mpr c22
            have c22b1 : (a0_2.toList != ([115, 116, 97, 116, 101] : List UInt8)) = true := bne_iff_ne.mpr c22
            by_cases c30 : a0_2.toList = ([99, 111, 110, 110, 101, 99, 116, 105, 111, 110] : List UInt8)
            · rw [if_pos c30] at H
              have c30b0 : (a0_2.toList == ([99, 111, 110, 110, 101, 99, 116, 105, 111, 110] : List UInt8)) = true := beq_iff_eq.mpr c30
              have c30b1 : (a0_2.toList != ([99, 111, 110, 110, 101, 99, 116, 105, 111, 110] : List UInt8)) = false := bne_eq_false_iff_eq.mpr c30
              clear c30
              by_cases c31 : 8 + a0_0.size ≤ 9223372036854775807
              · rw [if_pos c31] at H
                have c31b0 := eq_true c31
                have c31b1 : decide (8 + a0_0.size ≤ 9223372036854775807) = true := decide_eq_true c31
                try have c31b2 : (9223372036854775807 < 8 + a0_0.size) = False := eq_false (Nat.not_lt.2 c31)
                by_cases c32 : ((⟨#[117, 97, 103, 118, 47, 118, 50, 47]⟩ : ByteArray) ++ a0_0).size + 1 ≤ 9223372036854775807
                · rw [if_pos c32] at H
                  have c32b0 := eq_true c32
                  have c32b1 : decide (((⟨#[117, 97, 103, 118, 47, 118, 50, 47]⟩ : ByteArray) ++ a0_0).size + 1 ≤ 9223372036854775807) = true := decide_eq_true c32
                  try have c32b2 : (9223372036854775807 < ((⟨#[117, 97, 103, 118, 47, 118, 50, 47]⟩ : ByteArray) ++ a0_0).size + 1) = False := eq_false (Nat.not_lt.2 c32)
                  have c32b3 : ¬ (9223372036854775807 < 8 + a0_0.size + 1) := by -- SIZES
                    have z_ := c32
                    simp only [ByteArray.size_append, ByteArray.size_extract] at z_
                    have u0_ : (⟨#[117, 97, 103, 118, 47, 118, 50, 47]⟩ : ByteArray).size = 8 := rfl
                    clear c32b0 c32b1
                    omega
                  by_cases c33 : (((⟨#[117, 97, 103, 118, 47, 118, 50, 47]⟩ : ByteArray) ++ a0_0) ++ (⟨#[47]⟩ : ByteArray)).size + a0_1.size ≤ 9223372036854775807
                  · rw [if_pos c33] at H
                    have c33b0 := eq_true c33
                    have c33b1 : decide ((((⟨#[117, 97, 103, 118, 47, 118, 50, 47]⟩ : ByteArray) ++ a0_0) ++ (⟨#[47]⟩ : ByteArray)).size + a0_1.size ≤ 9223372036854775807) = true := decide_eq_true c33
                    try have c33b2 : (9223372036854775807 < (((⟨#[117, 97, 103, 118, 47, 118, 50, 47]⟩ : ByteArray) ++ a0_0) ++ (⟨#[47]⟩ : ByteArray)).size + a0_1.size) = False := eq_false (Nat.not_lt.2 c33)
                    have c33b3 : ¬ (9223372036854775807 < 8 + a0_0.size + 1 + a0_1.size) := by -- SIZES
                      have z_ := c33
                      simp only [ByteArray.size_append, ByteArray.size_extract] at z_
                      have u0_ : (⟨#[117, 97, 103, 118, 47, 118, 50, 47]⟩ : ByteArray).size = 8 := rfl
                      have u1_ : (⟨#[47]⟩ : ByteArray).size = 1 := rfl
                      clear c33b0 c33b1
                      omega
                    by_cases c34 : ((((⟨#[117, 97, 103, 118, 47, 118, 50, 47]⟩ : ByteArray) ++ a0_0) ++ (⟨#[47]⟩ : ByteArray)) ++ a0_1).size + 1 ≤ 9223372036854775807
                    · rw [if_pos c34] at H
                      have c34b0 := eq_true c34
                      have c34b1 : decide (((((⟨#[117, 97, 103, 118, 47, 118, 50, 47]⟩ : ByteArray) ++ a0_0) ++ (⟨#[47]⟩ : ByteArray)) ++ a0_1).size + 1 ≤ 9223372036854775807) = true := decide_eq_true c34
                      try have c34b2 : (9223372036854775807 < ((((⟨#[117, 97, 103, 118, 47, 118, 50, 47]⟩ : ByteArray) ++ a0_0) ++ (⟨#[47]⟩ : ByteArray)) ++ a0_1).size + 1) = False := eq_false (Nat.not_lt.2 c34)
                      have c34b3 : ¬ (9223372036854775807 < 8 + a0_0.size + 1 + a0_1.size + 1) := by -- SIZES
                        have z_ := c34
                        simp only [ByteArray.size_append, ByteArray.size_extract] at z_
                        have u0_ : (⟨#[117, 97, 103, 118, 47, 118, 50, 47]⟩ : ByteArray).size = 8 := rfl
                        have u1_ : (⟨#[47]⟩ : ByteArray).size = 1 := rfl
                        clear c34b0 c34b1
                        omega
                      by_cases c35 : (((((⟨#[117, 97, 103, 118, 47, 118, 50, 47]⟩ : ByteArray) ++ a0_0) ++ (⟨#[47]⟩ : ByteArray)) ++ a0_1) ++ (⟨#[47]⟩ : ByteArray)).size + a0_2.size ≤ 9223372036854775807
                      · rw [if_pos c35] at H
                        have c35b0 := eq_true c35
                        have c35b1 : decide ((((((⟨#[117, 97, 103, 118, 47, 118, 50, 47]⟩ : ByteArray) ++ a0_0) ++ (⟨#[47]⟩ : ByteArray)) ++ a0_1) ++ (⟨#[47]⟩ : ByteArray)).size + a0_2.size ≤ 9223372036854775807) = true := decide_eq_true c35
                        try have c35b2 : (9223372036854775807 < (((((⟨#[117, 97, 103, 118, 47, 118, 50, 47]⟩ : ByteArray) ++ a0_0) ++ (⟨#[47]⟩ : ByteArray)) ++ a0_1) ++ (⟨#[47]⟩ : ByteArray)).size + a0_2.size) = False := eq_false (Nat.not_lt.2 c35)
                        have c35b3 : ¬ (9223372036854775807 < 8 + a0_0.size + 1 + a0_1.size + 1 + a0_2.size) := by -- SIZES
                          have z_ := c35
                          simp only [ByteArray.size_append, ByteArray.size_extract] at z_
                          have u0_ : (⟨#[117, 97, 103, 118, 47, 118, 50, 47]⟩ : ByteArray).size = 8 := rfl
                          have u1_ : (⟨#[47]⟩ : ByteArray).size = 1 := rfl
                          clear c35b0 c35b1
                          omega
                        simp only [Option.some.injEq, Prod.mk.injEq] at H
                        obtain ⟨rfl, rfl⟩ := H
                        go_enter Tryd.func9, Tryd.ntmps9
                        go_wp2_with (first | ((with_reducible refine gate_dst (N := 1) rfl ?_); refine box_event ?hg (N := 1) ?hd (cs := #[.string a0_0, .string a0_1, .string a0_2]) (t := 23) ?hr ?_; (case hd => rfl); (case hg => rfl); (case hr => first | (go_simp; done) | (go_simp; rfl)); intro gb139 hg w36 hbox hb; have n0_ := Aside0.mk (below_step (by repeat (first | (with_reducible first | exact HB.out | apply below_alloc | apply pw_below_drewN | apply below_drew1) | exact HB.out)) hb); have n1_ := Aside0.mk (hbox); have n2_ := Aside0.mk ((by rw [hg]; exact (below_size (by repeat (first | (with_reducible first | exact HB.out | apply below_alloc | apply pw_below_drewN | apply below_drew1) | exact HB.out))) : w.heap.size ≤ gb139)); have n3_ := Aside0.mk ((by rw [hg]; exact (below_size (by repeat (first | (with_reducible first | exact HB.out | apply below_alloc | apply pw_below_drewN | apply below_drew1) | exact HB.out))) : w.heap.size ≤ gb139)); clear HB; have HB := n0_; have BK139 := n1_; have GW139 := n2_; have GE139 := n3_; clear n0_ n1_ n2_ n3_; clear hb hbox hg; have hcz37_0 : w36.cell? ⟨gb139, 0, none⟩ = some (.string a0_0) := (blk_cell BK139.out 0).trans rfl; have hcz37_1 : w36.cell? ⟨gb139, 1, none⟩ = some (.string a0_1) := (blk_cell BK139.out 1).trans rfl; have hcz37_2 : w36.cell? ⟨gb139, 2, none⟩ = some (.string a0_2) := (blk_cell BK139.out 2).trans rfl; have hfz37_0 := blk_frozen BK139.out 0; have hfz37_1 := blk_frozen BK139.out 1; have hfz37_2 := blk_frozen BK139.out 2) | ((with_reducible refine gate_callee (f := 13) rfl ?_); refine goesL_ (some 9) rfl rfl Tryd.func13 (by kernel_rfl) rfl #[.string a0_0] rfl (by (try simp only [List.map_toArray, List.map_cons, List.map_nil]); first | done | rfl | (simp only [List.length_drop, List.length_take]; rfl)) ?_; (with_reducible refine (humpyardref07_Name.calls k a0_0 true _ A2.out).mono ?_); rintro e w' ⟨rfl, ⟨nd, rfl⟩⟩; refine ⟨_, rfl, ?_⟩) | ((with_reducible refine gate_callee (f := 13) rfl ?_); refine goesL_ (some 12) rfl rfl Tryd.func13 (by kernel_rfl) rfl #[.string a0_1] rfl (by (try simp only [List.map_toArray, List.map_cons, List.map_nil]); first | done | rfl | (simp only [List.length_drop, List.length_take]; rfl)) ?_; (with_reducible refine (humpyardref07_Name.calls k a0_1 true _ A3.out).mono ?_); rintro e w' ⟨rfl, ⟨nd, rfl⟩⟩; refine ⟨_, rfl, ?_⟩))
                        go_ret2
                        exact ⟨by first | rfl | (simp [errW_none, errW_some] <;> rfl) | (simp [*, errW_none, errW_some] <;> rfl), by repeat (first | (with_reducible first | exact HB.out | apply below_alloc | apply pw_below_drewN | apply below_drew1 | refine below_set ?_ GE139.out) | exact HB.out)⟩
                      · rw [if_neg c35] at H
                        exact absurd H (by simp)
                    · rw [if_neg c34] at H
                      exact absurd H (by simp)
                  · rw [if_neg c33] at H
                    exact absurd H (by simp)
                · rw [if_neg c32] at H
                  exact absurd H (by simp)
              · rw [if_neg c31] at H
                exact absurd H (by simp)
            · rw [if_neg c30] at H
              have c30b0 : (a0_2.toList == ([99, 111, 110, 110, 101, 99, 116, 105, 111, 110] : List UInt8)) = false := beq_eq_false_iff_ne.mpr c30
              have c30b1 : (a0_2.toList != ([99, 111, 110, 110, 101, 99, 116, 105, 111, 110] : List UInt8)) = true := bne_iff_ne.mpr c30
              by_cases c38 : a0_2.toList = ([118, 105, 115, 117, 97, 108, 105, 122, 97, 116, 105, 111, 110] : List UInt8)
              · rw [if_pos c38] at H
                have c38b0 : (a0_2.toList == ([118, 105, 115, 117, 97, 108, 105, 122, 97, 116, 105, 111, 110] : List UInt8)) = true := beq_iff_eq.mpr c38
                have c38b1 : (a0_2.toList != ([118, 105, 115, 117, 97, 108, 105, 122, 97, 116, 105, 111, 110] : List UInt8)) = false := bne_eq_false_iff_eq.mpr c38
                clear c38
                by_cases c39 : 8 + a0_0.size ≤ 9223372036854775807
                · rw [if_pos c39] at H
                  have c39b0 := eq_true c39
                  have c39b1 : decide (8 + a0_0.size ≤ 9223372036854775807) = true := decide_eq_true c39
                  try have c39b2 : (9223372036854775807 < 8 + a0_0.size) = False := eq_false (Nat.not_lt.2 c39)
                  by_cases c40 : ((⟨#[117, 97, 103, 118, 47, 118, 50, 47]⟩ : ByteArray) ++ a0_0).size + 1 ≤ 9223372036854775807
                  · rw [if_pos c40] at H
                    have c40b0 := eq_true c40
                    have c40b1 : decide (((⟨#[117, 97, 103, 118, 47, 118, 50, 47]⟩ : ByteArray) ++ a0_0).size + 1 ≤ 9223372036854775807) = true := decide_eq_true c40
                    try have c40b2 : (9223372036854775807 < ((⟨#[117, 97, 103, 118, 47, 118, 50, 47]⟩ : ByteArray) ++ a0_0).size + 1) = False := eq_false (Nat.not_lt.2 c40)
                    have c40b3 : ¬ (9223372036854775807 < 8 + a0_0.size + 1) := by -- SIZES
                      have z_ := c40
                      simp only [ByteArray.size_append, ByteArray.size_extract] at z_
                      have u0_ : (⟨#[117, 97, 103, 118, 47, 118, 50, 47]⟩ : ByteArray).size = 8 := rfl
                      clear c40b0 c40b1
                      omega
                    by_cases c41 : (((⟨#[117, 97, 103, 118, 47, 118, 50, 47]⟩ : ByteArray) ++ a0_0) ++ (⟨#[47]⟩ : ByteArray)).size + a0_1.size ≤ 9223372036854775807
                    · rw [if_pos c41] at H
                      have c41b0 := eq_true c41
                      have c41b1 : decide ((((⟨#[117, 97, 103, 118, 47, 118, 50, 47]⟩ : ByteArray) ++ a0_0) ++ (⟨#[47]⟩ : ByteArray)).size + a0_1.size ≤ 9223372036854775807) = true := decide_eq_true c41
                      try have c41b2 : (9223372036854775807 < (((⟨#[117, 97, 103, 118, 47, 118, 50, 47]⟩ : ByteArray) ++ a0_0) ++ (⟨#[47]⟩ : ByteArray)).size + a0_1.size) = False := eq_false (Nat.not_lt.2 c41)
                      have c41b3 : ¬ (9223372036854775807 < 8 + a0_0.size + 1 + a0_1.size) := by -- SIZES
                        have z_ := c41
                        simp only [ByteArray.size_append, ByteArray.size_extract] at z_
                        have u0_ : (⟨#[117, 97, 103, 118, 47, 118, 50, 47]⟩ : ByteArray).size = 8 := rfl
                        have u1_ : (⟨#[47]⟩ : ByteArray).size = 1 := rfl
                        clear c41b0 c41b1
                        omega
                      by_cases c42 : ((((⟨#[117, 97, 103, 118, 47, 118, 50, 47]⟩ : ByteArray) ++ a0_0) ++ (⟨#[47]⟩ : ByteArray)) ++ a0_1).size + 1 ≤ 9223372036854775807
                      · rw [if_pos c42] at H
                        have c42b0 := eq_true c42
                        have c42b1 : decide (((((⟨#[117, 97, 103, 118, 47, 118, 50, 47]⟩ : ByteArray) ++ a0_0) ++ (⟨#[47]⟩ : ByteArray)) ++ a0_1).size + 1 ≤ 9223372036854775807) = true := decide_eq_true c42
                        try have c42b2 : (9223372036854775807 < ((((⟨#[117, 97, 103, 118, 47, 118, 50, 47]⟩ : ByteArray) ++ a0_0) ++ (⟨#[47]⟩ : ByteArray)) ++ a0_1).size + 1) = False := eq_false (Nat.not_lt.2 c42)
                        have c42b3 : ¬ (9223372036854775807 < 8 + a0_0.size + 1 + a0_1.size + 1) := by -- SIZES
                          have z_ := c42
                          simp only [ByteArray.size_append, ByteArray.size_extract] at z_
                          have u0_ : (⟨#[117, 97, 103, 118, 47, 118, 50, 47]⟩ : ByteArray).size = 8 := rfl
                          have u1_ : (⟨#[47]⟩ : ByteArray).size = 1 := rfl
                          clear c42b0 c42b1
                          omega
                        by_cases c43 : (((((⟨#[117, 97, 103, 118, 47, 118, 50, 47]⟩ : ByteArray) ++ a0_0) ++ (⟨#[47]⟩ : ByteArray)) ++ a0_1) ++ (⟨#[47]⟩ : ByteArray)).size + a0_2.size ≤ 9223372036854775807
                        · rw [if_pos c43] at H
                          have c43b0 := eq_true c43
                          have c43b1 : decide ((((((⟨#[117, 97, 103, 118, 47, 118, 50, 47]⟩ : ByteArray) ++ a0_0) ++ (⟨#[47]⟩ : ByteArray)) ++ a0_1) ++ (⟨#[47]⟩ : ByteArray)).size + a0_2.size ≤ 9223372036854775807) = true := decide_eq_true c43
                          try have c43b2 : (9223372036854775807 < (((((⟨#[117, 97, 103, 118, 47, 118, 50, 47]⟩ : ByteArray) ++ a0_0) ++ (⟨#[47]⟩ : ByteArray)) ++ a0_1) ++ (⟨#[47]⟩ : ByteArray)).size + a0_2.size) = False := eq_false (Nat.not_lt.2 c43)
                          have c43b3 : ¬ (9223372036854775807 < 8 + a0_0.size + 1 + a0_1.size + 1 + a0_2.size) := by -- SIZES
                            have z_ := c43
                            simp only [ByteArray.size_append, ByteArray.size_extract] at z_
                            have u0_ : (⟨#[117, 97, 103, 118, 47, 118, 50, 47]⟩ : ByteArray).size = 8 := rfl
                            have u1_ : (⟨#[47]⟩ : ByteArray).size = 1 := rfl
                            clear c43b0 c43b1
                            omega
                          simp only [Option.some.injEq, Prod.mk.injEq] at H
                          obtain ⟨rfl, rfl⟩ := H
                          go_enter Tryd.func9, Tryd.ntmps9
                          go_wp2_with (first | ((with_reducible refine gate_dst (N := 1) rfl ?_); refine box_event ?hg (N := 1) ?hd (cs := #[.string a0_0, .string a0_1, .string a0_2]) (t := 23) ?hr ?_; (case hd => rfl); (case hg => rfl); (case hr => first | (go_simp; done) | (go_simp; rfl)); intro gb139 hg w44 hbox hb; have n0_ := Aside0.mk (below_step (by repeat (first | (with_reducible first | exact HB.out | apply below_alloc | apply pw_below_drewN | apply below_drew1) | exact HB.out)) hb); have n1_ := Aside0.mk (hbox); have n2_ := Aside0.mk ((by rw [hg]; exact (below_size (by repeat (first | (with_reducible first | exact HB.out | apply below_alloc | apply pw_below_drewN | apply below_drew1) | exact HB.out))) : w.heap.size ≤ gb139)); have n3_ := Aside0.mk ((by rw [hg]; exact (below_size (by repeat (first | (with_reducible first | exact HB.out | apply below_alloc | apply pw_below_drewN | apply below_drew1) | exact HB.out))) : w.heap.size ≤ gb139)); clear HB; have HB := n0_; have BK139 := n1_; have GW139 := n2_; have GE139 := n3_; clear n0_ n1_ n2_ n3_; clear hb hbox hg; have hcz45_0 : w44.cell? ⟨gb139, 0, none⟩ = some (.string a0_0) := (blk_cell BK139.out 0).trans rfl; have hcz45_1 : w44.cell? ⟨gb139, 1, none⟩ = some (.string a0_1) := (blk_cell BK139.out 1).trans rfl; have hcz45_2 : w44.cell? ⟨gb139, 2, none⟩ = some (.string a0_2) := (blk_cell BK139.out 2).trans rfl; have hfz45_0 := blk_frozen BK139.out 0; have hfz45_1 := blk_frozen BK139.out 1; have hfz45_2 := blk_frozen BK139.out 2) | ((with_reducible refine gate_callee (f := 13) rfl ?_); refine goesL_ (some 9) rfl rfl Tryd.func13 (by kernel_rfl) rfl #[.string a0_0] rfl (by (try simp only [List.map_toArray, List.map_cons, List.map_nil]); first | done | rfl | (simp only [List.length_drop, List.length_take]; rfl)) ?_; (with_reducible refine (humpyardref07_Name.calls k a0_0 true _ A2.out).mono ?_); rintro e w' ⟨rfl, ⟨nd, rfl⟩⟩; refine ⟨_, rfl, ?_⟩) | ((with_reducible refine gate_callee (f := 13) rfl ?_); refine goesL_ (some 12) rfl rfl Tryd.func13 (by kernel_rfl) rfl #[.string a0_1] rfl (by (try simp only [List.map_toArray, List.map_cons, List.map_nil]); first | done | rfl | (simp only [List.length_drop, List.length_take]; rfl)) ?_; (with_reducible refine (humpyardref07_Name.calls k a0_1 true _ A3.out).mono ?_); rintro e w' ⟨rfl, ⟨nd, rfl⟩⟩; refine ⟨_, rfl, ?_⟩))
                          go_ret2
                          exact ⟨by first | rfl | (simp [errW_none, errW_some] <;> rfl) | (simp [*, errW_none, errW_some] <;> rfl), by repeat (first | (with_reducible first | exact HB.out | apply below_alloc | apply pw_below_drewN | apply below_drew1 | refine below_set ?_ GE139.out) | exact HB.out)⟩
                        · rw [if_neg c43] at H
                          exact absurd H (by simp)
                      · rw [if_neg c42] at H
                        exact absurd H (by simp)
                    · rw [if_neg c41] at H
                      exact absurd H (by simp)
                  · rw [if_neg c40] at H
                    exact absurd H (by simp)
                · rw [if_neg c39] at H
                  exact absurd H (by simp)
              · rw [if_neg c38] at H
                have c38b0 : (a0_2.toList == ([118, 105, 115, 117, 97, 108, 105, 122, 97, 116, 105, 111, 110] : List UInt8)) = false := beq_eq_false_iff_ne.mpr c38
                have c38b1 : (a0_2.toList != ([118, 105, 115, 117, 97, 108, 105, 122, 97, 116, 105, 111, 110] : List UInt8)) = true := bne_iff_ne.mpr c38
                simp only [Option.some.injEq, Prod.mk.injEq] at H
                obtain ⟨rfl, rfl⟩ := H
                go_enter Tryd.func9, Tryd.ntmps9
                go_wp2_with (first | ((with_reducible refine gate_dst (N := 1) rfl ?_); refine box_event ?hg (N := 1) ?hd (cs := #[.string a0_0, .string a0_1, .string a0_2]) (t := 23) ?hr ?_; (case hd => rfl); (case hg => rfl); (case hr => first | (go_simp; done) | (go_simp; rfl)); intro gb139 hg w46 hbox hb; have n0_ := Aside0.mk (below_step (by repeat (first | (with_reducible first | exact HB.out | apply below_alloc | apply pw_below_drewN | apply below_drew1) | exact HB.out)) hb); have n1_ := Aside0.mk (hbox); have n2_ := Aside0.mk ((by rw [hg]; exact (below_size (by repeat (first | (with_reducible first | exact HB.out | apply below_alloc | apply pw_below_drewN | apply below_drew1) | exact HB.out))) : w.heap.size ≤ gb139)); have n3_ := Aside0.mk ((by rw [hg]; exact (below_size (by repeat (first | (with_reducible first | exact HB.out | apply below_alloc | apply pw_below_drewN | apply below_drew1) | exact HB.out))) : w.heap.size ≤ gb139)); clear HB; have HB := n0_; have BK139 := n1_; have GW139 := n2_; have GE139 := n3_; clear n0_ n1_ n2_ n3_; clear hb hbox hg; have hcz47_0 : w46.cell? ⟨gb139, 0, none⟩ = some (.string a0_0) := (blk_cell BK139.out 0).trans rfl; have hcz47_1 : w46.cell? ⟨gb139, 1, none⟩ = some (.string a0_1) := (blk_cell BK139.out 1).trans rfl; have hcz47_2 : w46.cell? ⟨gb139, 2, none⟩ = some (.string a0_2) := (blk_cell BK139.out 2).trans rfl; have hfz47_0 := blk_frozen BK139.out 0; have hfz47_1 := blk_frozen BK139.out 1; have hfz47_2 := blk_frozen BK139.out 2) | ((with_reducible refine gate_callee (f := 13) rfl ?_); refine goesL_ (some 9) rfl rfl Tryd.func13 (by kernel_rfl) rfl #[.string a0_0] rfl (by (try simp only [List.map_toArray, List.map_cons, List.map_nil]); first | done | rfl | (simp only [List.length_drop, List.length_take]; rfl)) ?_; (with_reducible refine (humpyardref07_Name.calls k a0_0 true _ A2.out).mono ?_); rintro e w' ⟨rfl, ⟨nd, rfl⟩⟩; refine ⟨_, rfl, ?_⟩) | ((with_reducible refine gate_callee (f := 13) rfl ?_); refine goesL_ (some 12) rfl rfl Tryd.func13 (by kernel_rfl) rfl #[.string a0_1] rfl (by (try simp only [List.map_toArray, List.map_cons, List.map_nil]); first | done | rfl | (simp only [List.length_drop, List.length_take]; rfl)) ?_; (with_reducible refine (humpyardref07_Name.calls k a0_1 true _ A3.out).mono ?_); rintro e w' ⟨rfl, ⟨nd, rfl⟩⟩; refine ⟨_, rfl, ?_⟩))
                go_ret2
                exact ⟨by first | rfl | (simp [errW_none, errW_some] <;> rfl) | (simp [*, errW_none, errW_some] <;> rfl), by repeat (first | (with_reducible first | exact HB.out | apply below_alloc | apply pw_below_drewN | apply below_drew1 | refine below_set ?_ GE139.out) | exact HB.out)⟩
    · replace c5 := Bool.eq_false_iff.mpr c5
      subst c5
      have H1 : (some ((⟨#[]⟩ : ByteArray), 70)) = some (r1, r2) := by rw [if_neg (show ¬ (false = true) by decide)] at H; exact H
      clear H
      have H := H1
      clear H1
      simp only [Option.some.injEq, Prod.mk.injEq] at H
      obtain ⟨rfl, rfl⟩ := H
      go_enter Tryd.func9, Tryd.ntmps9
      go_wp2_with (first | ((with_reducible refine gate_dst (N := 1) rfl ?_); refine box_event ?hg (N := 1) ?hd (cs := #[.string a0_0, .string a0_1, .string a0_2]) (t := 23) ?hr ?_; (case hd => rfl); (case hg => rfl); (case hr => first | (go_simp; done) | (go_simp; rfl)); intro gb139 hg w48 hbox hb; have n0_ := Aside0.mk (below_step (by repeat (first | (with_reducible first | exact HB.out | apply below_alloc | apply pw_below_drewN | apply below_drew1) | exact HB.out)) hb); have n1_ := Aside0.mk (hbox); have n2_ := Aside0.mk ((by rw [hg]; exact (below_size (by repeat (first | (with_reducible first | exact HB.out | apply below_alloc | apply pw_below_drewN | apply below_drew1) | exact HB.out))) : w.heap.size ≤ gb139)); have n3_ := Aside0.mk ((by rw [hg]; exact (below_size (by repeat (first | (with_reducible first | exact HB.out | apply below_alloc | apply pw_below_drewN | apply below_drew1) | exact HB.out))) : w.heap.size ≤ gb139)); clear HB; have HB := n0_; have BK139 := n1_; have GW139 := n2_; have GE139 := n3_; clear n0_ n1_ n2_ n3_; clear hb hbox hg; have hcz49_0 : w48.cell? ⟨gb139, 0, none⟩ = some (.string a0_0) := (blk_cell BK139.out 0).trans rfl; have hcz49_1 : w48.cell? ⟨gb139, 1, none⟩ = some (.string a0_1) := (blk_cell BK139.out 1).trans rfl; have hcz49_2 : w48.cell? ⟨gb139, 2, none⟩ = some (.string a0_2) := (blk_cell BK139.out 2).trans rfl; have hfz49_0 := blk_frozen BK139.out 0; have hfz49_1 := blk_frozen BK139.out 1; have hfz49_2 := blk_frozen BK139.out 2) | ((with_reducible refine gate_callee (f := 13) rfl ?_); refine goesL_ (some 9) rfl rfl Tryd.func13 (by kernel_rfl) rfl #[.string a0_0] rfl (by (try simp only [List.map_toArray, List.map_cons, List.map_nil]); first | done | rfl | (simp only [List.length_drop, List.length_take]; rfl)) ?_; (with_reducible refine (humpyardref07_Name.calls k a0_0 true _ A2.out).mono ?_); rintro e w' ⟨rfl, ⟨nd, rfl⟩⟩; refine ⟨_, rfl, ?_⟩) | ((with_reducible refine gate_callee (f := 13) rfl ?_); refine goesL_ (some 12) rfl rfl Tryd.func13 (by kernel_rfl) rfl #[.string a0_1] rfl (by (try simp only [List.map_toArray, List.map_cons, List.map_nil]); first | done | rfl | (simp only [List.length_drop, List.length_take]; rfl)) ?_; (with_reducible refine (humpyardref07_Name.calls k a0_1 false _ A3.out).mono ?_); rintro e w' ⟨rfl, ⟨nd, rfl⟩⟩; refine ⟨_, rfl, ?_⟩))
      go_ret2
      exact ⟨by first | rfl | (simp [errW_none, errW_some] <;> rfl) | (simp [*, errW_none, errW_some] <;> rfl), by repeat (first | (with_reducible first | exact HB.out | apply below_alloc | apply pw_below_drewN | apply below_drew1 | refine below_set ?_ GE139.out) | exact HB.out)⟩
  · replace c4 := Bool.eq_false_iff.mpr c4
    subst c4
    have H1 : (some ((⟨#[]⟩ : ByteArray), 70)) = some (r1, r2) := by rw [if_neg (show ¬ (false = true) by decide)] at H; exact H
    clear H
    have H := H1
    clear H1
    simp only [Option.some.injEq, Prod.mk.injEq] at H
    obtain ⟨rfl, rfl⟩ := H
    go_enter Tryd.func9, Tryd.ntmps9
    go_wp2_with (first | ((with_reducible refine gate_dst (N := 1) rfl ?_); refine box_event ?hg (N := 1) ?hd (cs := #[.string a0_0, .string a0_1, .string a0_2]) (t := 23) ?hr ?_; (case hd => rfl); (case hg => rfl); (case hr => first | (go_simp; done) | (go_simp; rfl)); intro gb139 hg w50 hbox hb; have n0_ := Aside0.mk (below_step (by repeat (first | (with_reducible first | exact HB.out | apply below_alloc | apply pw_below_drewN | apply below_drew1) | exact HB.out)) hb); have n1_ := Aside0.mk (hbox); have n2_ := Aside0.mk ((by rw [hg]; exact (below_size (by repeat (first | (with_reducible first | exact HB.out | apply below_alloc | apply pw_below_drewN | apply below_drew1) | exact HB.out))) : w.heap.size ≤ gb139)); have n3_ := Aside0.mk ((by rw [hg]; exact (below_size (by repeat (first | (with_reducible first | exact HB.out | apply below_alloc | apply pw_below_drewN | apply below_drew1) | exact HB.out))) : w.heap.size ≤ gb139)); clear HB; have HB := n0_; have BK139 := n1_; have GW139 := n2_; have GE139 := n3_; clear n0_ n1_ n2_ n3_; clear hb hbox hg; have hcz51_0 : w50.cell? ⟨gb139, 0, none⟩ = some (.string a0_0) := (blk_cell BK139.out 0).trans rfl; have hcz51_1 : w50.cell? ⟨gb139, 1, none⟩ = some (.string a0_1) := (blk_cell BK139.out 1).trans rfl; have hcz51_2 : w50.cell? ⟨gb139, 2, none⟩ = some (.string a0_2) := (blk_cell BK139.out 2).trans rfl; have hfz51_0 := blk_frozen BK139.out 0; have hfz51_1 := blk_frozen BK139.out 1; have hfz51_2 := blk_frozen BK139.out 2) | ((with_reducible refine gate_callee (f := 13) rfl ?_); refine goesL_ (some 9) rfl rfl Tryd.func13 (by kernel_rfl) rfl #[.string a0_0] rfl (by (try simp only [List.map_toArray, List.map_cons, List.map_nil]); first | done | rfl | (simp only [List.length_drop, List.length_take]; rfl)) ?_; (with_reducible refine (humpyardref07_Name.calls k a0_0 false _ A2.out).mono ?_); rintro e w' ⟨rfl, ⟨nd, rfl⟩⟩; refine ⟨_, rfl, ?_⟩) | ((with_reducible refine gate_callee (f := 13) rfl ?_); refine goesL_ (some 12) rfl rfl Tryd.func13 (by kernel_rfl) rfl #[.string a0_1] rfl (by (try simp only [List.map_toArray, List.map_cons, List.map_nil]); first | done | rfl | (simp only [List.length_drop, List.length_take]; rfl)) ?_; (with_reducible refine (humpyardref07_Name.calls k a0_1 t141 _ A3.out).mono ?_); rintro e w' ⟨rfl, ⟨nd, rfl⟩⟩; refine ⟨_, rfl, ?_⟩))
    go_ret2
    exact ⟨by first | rfl | (simp [errW_none, errW_some] <;> rfl) | (simp [*, errW_none, errW_some] <;> rfl), by repeat (first | (with_reducible first | exact HB.out | apply below_alloc | apply pw_below_drewN | apply below_drew1 | refine below_set ?_ GE139.out) | exact HB.out)⟩

end Go.Proofs.YtcioahjfmmhiiaaDoor.PA
