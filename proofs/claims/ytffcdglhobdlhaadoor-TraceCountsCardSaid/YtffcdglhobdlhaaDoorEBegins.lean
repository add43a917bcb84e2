/- trace.begins: true just if the list begins with all of the other one. -/
import Derived.Test.YtffcdglhobdlhaaDoorHelp
namespace Go.Proofs.YtffcdglhobdlhaaDoor.PA
open Go.RowKit Go.Proofs.YtffcdglhobdlhaaDoorW.PrintWords Go.Proofs.YtffcdglhobdlhaaDoorW.PrintLast Go.Proofs.YtffcdglhobdlhaaDoorW.PrintMore

def trace_begins.f (l0 : List Int) (l1 : List Int) : Option (Bool) := some (decide (l0.take l1.length = l1))
set_option maxRecDepth 100000 in
theorem trace_begins.calls (A0 : Option Addr) (c0 : Nat) (l0 : List Int) (A1 : Option Addr) (c1 : Nat) (l1 : List Int) (r : Bool) (w : World) (hr0 : Kd.C (Kd.int .i64) w A0 l0.length l0) (hc0 : l0.length ≤ c0) (hr1 : Kd.C (Kd.int .i64) w A1 l1.length l1) (hc1 : l1.length ≤ c1) (h : trace_begins.f l0 l1 = some r) :
    Calls Tryd.prog 22 #[.slice A0 l0.length c0, .slice A1 l1.length c1] w fun e w' => e = .returned (.bool r) ∧ Below w.heap.size w w' := by
  have hm0 := hr0.2.1
  have hr : decide (l0.take l1.length = l1) = r := Option.some.inj h
  clear h
  by_cases c3 : l1.length ≤ l0.length
  · have hE := Equal_tells (l0.take l1.length) l1 (by rw [List.length_take]; omega)
    rw [hr] at hE
    have hrt : Kd.C (Kd.int .i64) w A0 (l0.take l1.length).length (l0.take l1.length) := by
      obtain ⟨i07, hi07, _, hsz7, _⟩ := info_parts info3
      obtain ⟨_, hA7, _⟩ := print_take_of (P := Tryd.prog) (Value.int .i64) 0 26 3 .i64 Tryd.underlying26 hi07 hsz7 A0 c0 l0 (l1.length : Int) (by omega) (by omega) hc0
      have h9 := Kd.C_of_reads (h1 := fun _ => rfl) (hA7 _ (Kd.reads_of_C hr0))
      rw [Int.toNat_natCast] at h9
      exact h9
    have hcall := slices_Equal_int_int.calls _ A0 c0 (l0.take l1.length) A1 c1 l1 r w hrt (by rw [List.length_take]; omega) hr1 hc1 hE
    rw [List.length_take] at hcall
    have HC := Aside0.mk hcall
    have c3b0 : decide ((l1.length : Int) ≤ (l0.length : Int)) = true := decide_eq_true (by omega)
    have c3b1 : decide (l1.length ≤ l0.length) = true := decide_eq_true c3
    have c4 : ((l1.length : Int) ≤ (l0.length : Int)) = True := eq_true (by omega)
    have c5 : (0 ≤ (l1.length : Int)) = True := eq_true (by omega)
    obtain ⟨i07, hi07, _, hsz7, _⟩ := info_parts info3
    obtain ⟨hcut7, _, _⟩ := print_take_of (P := Tryd.prog) (Value.int .i64) 0 26 3 .i64 Tryd.underlying26 hi07 hsz7 A0 c0 l0 (l1.length : Int) (by omega) (by omega) hc0
    clear hE hcall hi07 hsz7 hr0 hrt hr1 hc0 hc1 hm0 hr c3
    go_enter Tryd.func22, Tryd.ntmps22
    go_wp2_with fail
    refine HC.out.mono ?_
    rintro e w' ⟨rfl, nd, rfl⟩
    go_wp2
    go_ret
    exact ⟨rfl, pw_below_drewN (Below.refl _ _) _⟩
  · have hf : r = false := by
      rw [← hr, decide_eq_false_iff_not]
      intro e
      have := congrArg List.length e
      rw [List.length_take] at this
      omega
    subst hf
    have c3b0 : decide ((l1.length : Int) ≤ (l0.length : Int)) = false := decide_eq_false (by omega)
    have c3b1 : decide (l1.length ≤ l0.length) = false := decide_eq_false c3
    clear hr0 hr1 hc0 hc1 hm0 hr c3
    go_enter Tryd.func22, Tryd.ntmps22
    go_wp2
    go_ret
    exact ⟨rfl, Below.refl _ _⟩
end Go.Proofs.YtffcdglhobdlhaaDoor.PA
