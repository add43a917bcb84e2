/- trace.Allowed at the two calls of chapter 21's example. -/
import Derived.Test.YtffcdglhobdlhaaDoorHelp
namespace Go.Proofs.YtffcdglhobdlhaaDoor.PA
open Go.RowKit Go.Proofs.YtffcdglhobdlhaaDoorW.PrintWords Go.Proofs.YtffcdglhobdlhaaDoorW.PrintLast Go.Proofs.YtffcdglhobdlhaaDoorW.PrintMore

def job1 : S42 := ⟨1, 0, 1, 0⟩
/-- It speaks of two calls alone: nothing of others. -/
def trace_Allowed.f (l0 : List (S42)) (l1 : List (S42)) : Option (Bool) := match l0, l1 with
  | [], [⟨1, 0, 1, 0⟩] => some true
  | [⟨1, 0, 1, 0⟩], [] => some false
  | _, _ => none
theorem allowed_cases {l0 l1 : List S42} {r : Bool} (h : trace_Allowed.f l0 l1 = some r) : (l0 = [] ∧ l1 = [job1] ∧ r = true) ∨ (l0 = [job1] ∧ l1 = [] ∧ r = false) := by
  unfold trace_Allowed.f at h
  split at h
  · exact .inl ⟨rfl, rfl, (Option.some.inj h).symm⟩
  · exact .inr ⟨rfl, rfl, (Option.some.inj h).symm⟩
  · cases h

set_option maxHeartbeats 4000000 in
set_option maxRecDepth 100000 in
theorem trace_Allowed.calls (A0 : Option Addr) (c0 : Nat) (l0 : List (S42)) (A1 : Option Addr) (c1 : Nat) (l1 : List (S42)) (r : Bool) (w : World) (hr0 : Kd.C k42 w A0 l0.length l0) (hc0 : l0.length ≤ c0) (hr1 : Kd.C k42 w A1 l1.length l1) (hc1 : l1.length ≤ c1) (h : trace_Allowed.f l0 l1 = some r) :
    Calls Tryd.prog 15 #[.slice A0 l0.length c0, .slice A1 l1.length c1] w fun e w' => e = .returned (.bool r) ∧ Below w.heap.size w w' := by
  rcases allowed_cases h with ⟨rfl, rfl, rfl⟩ | ⟨rfl, rfl, rfl⟩
  · have HR := Aside0.mk hr1
    clear hr0 hc0 hr1 hc1 h
    have hmm := @run_makeMap Tryd.prog
    show Calls Tryd.prog 15 #[.slice A0 0 c0, .slice A1 1 c1] w _
    go_enter Tryd.func15, Tryd.ntmps15
    go_wp2
    go_step3
    go_wp2
    go_step3
    go_wp2
    have HB0 := Aside0.mk ((Below.refl w.heap.size w).alloc (Nat.le_refl _) (.map #[] 0))
    go_loopg [4, 19] 1 (fun k v4 v19 wr => v4 = .bool false ∧ ((k = 1 ∧ v19 = .int .i64 0) ∨ (k = 0 ∧ v19 = .int .i64 1)) ∧ Aside0 (Below w.heap.size w wr))
    case atStart => exact ⟨rfl, .inl ⟨rfl, rfl⟩, HB0⟩
    case round =>
      obtain ⟨rfl, ⟨rfl, rfl⟩ | ⟨rfl, rfl⟩, HB⟩ := hrel
      · obtain ⟨ad, rfl, h0, h1, h2, h3⟩ := at_T42 (Kd.C_below HR.out HB.out) 0 (by decide) (by simp)
        rw [show rd_T42 [job1] 0 = job1 from rfl] at h0 h1 h2 h3
        have e0 : ad.add (Int.toNat 0 * 4) = ad := by unfold Addr.add; simp
        rw [e0] at h0 h1 h2 h3
        have hb : ad.spot = none := by
          cases hs : ad.spot with
          | none => rfl
          | some s =>
            unfold World.cell? at h0
            rw [hs] at h0
            split at h0 <;> simp at h0
        obtain ⟨b, off, sp⟩ := ad
        obtain rfl : sp = none := hb
        dsimp only [job1] at h0 h1 h2 h3
        go_wp2
        go_roundg 0
        case measure => omega
        case rel => exact ⟨rfl, .inr ⟨rfl, rfl⟩, ⟨HB.out.alloc HB.out.size _⟩⟩
      · go_wp2
        try rw [Exit.noGoto_ret]
        go_ret
        exact ⟨rfl, HB.out⟩
  · clear hr0 hc0 hr1 hc1 h
    show Calls Tryd.prog 15 #[.slice A0 1 c0, .slice A1 0 c1] w _
    go_enter Tryd.func15, Tryd.ntmps15
    go_wp2
    go_step3
    go_wp2
    try rw [Exit.noGoto_ret]
    go_ret
    exact ⟨rfl, Below.refl _ _⟩
end Go.Proofs.YtffcdglhobdlhaaDoor.PA
