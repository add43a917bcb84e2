/- strings.Join, at a slice of strings that is read. -/
import Derived.Test.YtcioahjfmmhiiaaDoorPAx0
import Derived.Test.YtcioahjfmmhiiaaDoorShelf
import Derived.WalkKit
namespace Go.Proofs.YtcioahjfmmhiiaaDoor.PA
open Go.RowKit Go.Proofs.YtcioahjfmmhiiaaDoorW.PrintWords Go.Proofs.YtcioahjfmmhiiaaDoorW.PrintLast Go.Proofs.YtcioahjfmmhiiaaDoorW.PrintMore

/-- A slice of strings that is read: its address written out. -/
theorem C_addr {w : World} {A : Option Addr} {n : Nat} {xs : List ByteArray} (h : Kd.C Kd.string w A n xs) (hn : 0 < n) :
    ∃ b off, A = some ⟨b, off, none⟩ ∧ b < w.heap.size ∧ ∀ j, j < xs.length → w.cell? ⟨b, off + j, none⟩ = some (.string (xs.getD j ByteArray.empty)) := by
  obtain ⟨hl, _, hc⟩ := h
  obtain ⟨⟨b, off, sp⟩, rfl, hcell⟩ := hc hn
  have at_ : ∀ j, j < xs.length → w.cell? ((⟨b, off, sp⟩ : Addr).add j) = some (.string (xs.getD j ByteArray.empty)) := by
    intro j hj
    obtain ⟨c, hcl, hcv, hcc⟩ := hcell j xs[j] (List.getElem?_eq_getElem hj)
    have hcv' : c = [Value.string xs[j]] := hcv
    have := hcc 0 (.string xs[j]) (by rw [hcv']; rfl)
    have hs : (Kd.string).sz = 1 := rfl
    rw [hs, Nat.mul_one, Nat.add_zero] at this
    simpa [List.getD_eq_getElem?_getD, hj] using this
  have h0 := at_ 0 (by omega)
  have e0 : (⟨b, off, sp⟩ : Addr).add 0 = ⟨b, off, sp⟩ := by unfold Addr.add; simp
  rw [e0] at h0
  have hsp : sp = none := by
    cases sp with
    | none => rfl
    | some s =>
      unfold World.cell? at h0
      split at h0 <;> simp at h0
  subst hsp
  refine ⟨b, off, rfl, World.block_lt_of_cell? w _ h0, fun j hj => ?_⟩
  rw [← at_ j hj]
  congr 1
  unfold Addr.add
  split <;> simp_all

def joinL (l0 : List ByteArray) (a1 : ByteArray) : List UInt8 := Lib.join (l0.map (·.data.toList)) a1.data.toList
def strings_Join.f (l0 : List ByteArray) (a1 : ByteArray) : Option (ByteArray) := if l0.length ≤ 140737488355328 ∧ (joinL l0 a1).length ≤ 140737488355328 then some ⟨(joinL l0 a1).toArray⟩ else none
theorem strings_Join.calls (A0 : Option Addr) (c0 : Nat) (l0 : List ByteArray) (a1 : ByteArray) (r : ByteArray) (w : World) (hr0 : Kd.C Kd.string w A0 l0.length l0) (hc0 : l0.length ≤ c0) (h : strings_Join.f l0 a1 = some r) :
    Calls Tryd.prog 20 #[.slice A0 l0.length c0, .string a1] w fun e w' => e = .returned (.string r) ∧ Below w.heap.size w w' := by
  unfold strings_Join.f at h
  by_cases hf : l0.length ≤ 140737488355328 ∧ (joinL l0 a1).length ≤ 140737488355328
  case neg => rw [if_neg hf] at h; cases h
  rw [if_pos hf] at h
  obtain rfl := Option.some.inj h
  clear h
  cases l0 with
  | nil => exact (Tryd.strings_Join_none A0 c0 a1 w).mono fun e w' ⟨h1, h2⟩ => ⟨h1, h2 ▸ Below.refl _ _⟩
  | cons x l =>
    obtain ⟨b, off, rfl, hb, hc⟩ := C_addr hr0 (by simp)
    refine Tryd.strings_Join b off c0 (x :: l) a1 w (fun j y hj => ?_) hb hf.1 hc0 hf.2
    obtain ⟨h1, h2⟩ := List.getElem?_eq_some_iff.1 hj
    rw [hc j h1]
    simp [List.getD_eq_getElem?_getD, hj]
end Go.Proofs.YtcioahjfmmhiiaaDoor.PA
