/- slices.Clone, slices.DeleteFunc at trace.Shared's own closure, slices.Min: their contracts in the print's words. -/
import Derived.Test.YtffcdglhobdlhaaDoorHelp
import Derived.Test.YtffcdglhobdlhaaDoorShelf
import Derived.Test.YtffcdglhobdlhaaDoorShelfDel
import Derived.Shelf.GgClosure.Gives
namespace Go.Proofs.YtffcdglhobdlhaaDoor.PA
open Go.RowKit Go.Proofs.YtffcdglhobdlhaaDoorW.PrintWords Go.Proofs.YtffcdglhobdlhaaDoorW.PrintLast Go.Proofs.YtffcdglhobdlhaaDoorW.PrintMore

open Go.Lib Go.Sort

def commonOf (one two : List Int) : List Int := one.filter (fun x => two.contains x)

/-- slices.Clone at a slice that is read. -/
theorem clone_calls (A : Option Addr) (c : Nat) (xs : List Int) (w : World) (hr : Kd.C (Kd.int .i64) w A xs.length xs) (hb : xs.length * 8 ≤ 140737488355328) :
    Calls Tryd.prog 17 #[.slice A xs.length c] w fun e w' => ∃ v : Value, e = .returned v ∧ Kd.R (Kd.int .i64) 3 w' w.heap.size (fun _ => True) v xs ∧ Below w.heap.size w w' := by
  cases A with
  | none =>
    have h0 : xs = [] := by
      cases xs with
      | nil => rfl
      | cons x r =>
        obtain ⟨ad, h, _⟩ := hr.2.2 (by simp)
        cases h
    subst h0
    refine (Tryd.slices_Clone_int_nil _ _ w).mono ?_
    rintro e w' ⟨rfl, rfl⟩
    exact ⟨_, rfl, Kd.R_nil _ _ _ _ _, Below.refl _ _⟩
  | some a =>
    by_cases h0 : xs = []
    · subst h0
      refine (Tryd.slices_Clone_int_zero a _ w).mono ?_
      rintro e w' ⟨v, rfl, ho, _, hB⟩
      exact ⟨v, rfl, Kd.R_of_own ho (fun _ _ => trivial), hB⟩
    · have hp : 0 < xs.length := List.length_pos_iff.2 h0
      obtain ⟨b, off, e, _, hc⟩ := C_addr hr hp
      cases e
      refine (Tryd.slices_Clone_int b off xs.length _ xs w (Nat.le_refl _) hb hc).mono ?_
      rintro e w' ⟨v, rfl, ho, _, hB⟩
      rw [List.take_length] at ho
      exact ⟨v, rfl, Kd.R_of_own ho (fun _ _ => trivial), hB⟩

/-- trace.Shared's closure: is the number in none of the second list? -/
theorem struck_calls (B : Nat) (A : Option Addr) (c : Nat) (ys : List Int) (W : World) (hcell : W.cell? ⟨B, 0, none⟩ = some (.slice A ys.length c)) (hr : Kd.C (Kd.int .i64) W A ys.length ys) (hc : ys.length ≤ c) (x : Int) :
    Calls Tryd.prog 18 #[.int .i64 x, .pointer (some ⟨B, 0, none⟩)] W fun e w' => e = .returned (.bool (!ys.contains x)) ∧ ∃ q, w' = W.drewN q := by
  have hcon := slices_Contains_int_int.calls _ A c ys x (ys.contains x) W hr hc (Contains_tells ys x hr.2.1)
  have HC := Aside0.mk hcon
  clear hcon hr hc
  generalize ys.contains x = b at HC ⊢
  go_enter Tryd.func18, Tryd.ntmps18
  go_wp2_with fail
  refine HC.out.mono ?_
  rintro e w' ⟨rfl, nd, rfl⟩
  go_wp2
  go_ret
  exact ⟨rfl, nd, rfl⟩

theorem below_put {w0 W : World} {blk off m : Nat} {dk : Array Int} {os : Array Obj} (hB : Below w0.heap.size w0 W) (hb : w0.heap.size ≤ blk) : Below w0.heap.size w0 (sortWorld (Value.int .i64) W blk off m dk os) := by
  refine ⟨hB.os, hB.tape, hB.output, ?_, fun k hk => ?_⟩
  · have := hB.size
    simp only [sortWorld, grow, Array.size_append, size_putRow, Sort.ahead]
    omega
  · have hs := hB.size
    rw [show (sortWorld (Value.int .i64) W blk off m dk os).heap[k]? = (putRow (Value.int .i64) (Sort.ahead W m) blk off dk).heap[k]? from heap_grow_old _ _ (by rw [size_putRow]; simp only [Sort.ahead]; omega)]
    rw [← hB.block k hk]
    have hne : blk ≠ k := by omega
    simp [putRow, mapBlock, Sort.ahead, Array.getElem?_modify, hne]

/-- slices.DeleteFunc over a row of the call's own, at that closure. -/
theorem delete_calls (w0 W : World) (B : Nat) (A : Option Addr) (c : Nat) (xs ys : List Int) (v : Value) (hB : Below w0.heap.size w0 W) (hBlt : B < w0.heap.size) (hcell : w0.cell? ⟨B, 0, none⟩ = some (.slice A ys.length c)) (hr : Kd.C (Kd.int .i64) w0 A ys.length ys) (hc : ys.length ≤ c)
    (ho : Kd.R (Kd.int .i64) 3 W w0.heap.size (fun _ => True) v xs) :
    Calls Tryd.prog 16 #[v, .func (.func 18) #[] #[.pointer (some ⟨B, 0, none⟩)]] W fun e w' => ∃ A' c', e = .returned (.slice A' (commonOf xs ys).length c') ∧ (commonOf xs ys).length ≤ c' ∧ Kd.C (Kd.int .i64) w' A' (commonOf xs ys).length (commonOf xs ys) ∧ Below w0.heap.size w0 w' := by
  have later : ∀ {w1 : World}, Below w0.heap.size w0 w1 → w1.cell? ⟨B, 0, none⟩ = some (.slice A ys.length c) ∧ Kd.C (Kd.int .i64) w1 A ys.length ys := fun h => ⟨(h.cell (p := ⟨B, 0, none⟩) hBlt).trans hcell, Kd.C_below hr h⟩
  by_cases h0 : xs = []
  · subst h0
    obtain ⟨A0, c0, rfl, _, _⟩ := Kd.R_reads ho
    have hx := Tryd.slices_IndexFunc_empty (α := Int) A0 c0 (.func (.func 18) #[] #[.pointer (some ⟨B, 0, none⟩)]) W
    have HX := Aside0.mk hx
    have HD := Aside0.mk hB
    clear hx hB hr hc hcell ho later hBlt
    show Calls Tryd.prog 16 #[.slice A0 0 c0, _] W _
    go_enter Tryd.func16, Tryd.ntmps16
    go_wp2_with fail
    refine HX.out.mono ?_
    rintro e w' ⟨rfl, rfl⟩
    go_wp2
    go_ret
    exact ⟨A0, c0, rfl, Nat.zero_le _, ⟨rfl, Nat.zero_le _, fun h => absurd h (Nat.lt_irrefl 0)⟩, HD.out⟩
  · have hp : 0 < xs.length := List.length_pos_iff.2 h0
    have hown := Kd.own_of_R ho
    obtain ⟨g, cap, rfl, hg, hlt⟩ := hown.form hp
    have hcells := hown.cells (g := g) rfl
    have hcap : xs.length ≤ cap ∧ cap ≤ 9223372036854775807 ∧ ∀ j, W.frozen? ⟨g, j, none⟩ = false := by
      rcases hown.2 with ⟨e, _⟩ | ⟨g', cap', cur, e, _, hh, h1, h2, _⟩
      · cases e
      · cases e
        simp only [maxLen] at h2
        exact ⟨h1, h2, fun j => by simp [World.frozen?, hh]⟩
    have hH : Holds (Value.int .i64) W g 0 xs.toArray := fun j hj => by
      have hj' : j < xs.length := by simpa using hj
      refine ⟨?_, hcap.2.2 _⟩
      rw [Nat.zero_add, ← YtffcdglhobdlhaaDoorW.PrintWords.add_plain g j]
      refine hcells j _ ?_
      simp [encs, hj', getElem!_pos]
    have eg : ∀ args w, (callFunc 18 args).run Tryd.prog w = .ok (.enter 18 args) w := enters_of Tryd.func18 (by kernel_rfl) rfl
    have hpred : PredAt Tryd.prog 18 #[.pointer (some ⟨B, 0, none⟩)] (Value.int .i64) (fun x => !ys.contains x) W := fun W' x hb => by
      have hb' : Below w0.heap.size w0 W' := hB.trans (hb.mono hB.size)
      exact struck_calls B A c ys W' (later hb').1 (later hb').2 hc x
    have hover : PredOver Tryd.prog 18 #[.pointer (some ⟨B, 0, none⟩)] (Value.int .i64) (fun x => !ys.contains x) g 0 xs.toArray.size W := fun n os dk x _ => by
      have hb' := below_put (blk := g) (off := 0) (m := n) (dk := dk) (os := os) hB hg
      exact struck_calls B A c ys _ (later hb').1 (later hb').2 hc x
    have hcon := AnyE.slices_DeleteFunc Tryd.laysDel (Value.int .i64) (fun _ => rfl) (fun x => !ys.contains x) 18 #[.pointer (some ⟨B, 0, none⟩)] eg 0 Tryd.zeroValue3 g 0 cap xs.toArray W hpred hover hH (by simp; omega) (by simpa using hcap.1)
    have hfil : (xs.toArray.toList.filter fun x => !(!ys.contains x)) = commonOf xs ys := by simp [commonOf]
    rw [hfil] at hcon
    change Calls Tryd.prog 16 #[.slice (some ⟨g, 0, none⟩) xs.toArray.size cap, _] W _ at hcon
    rw [List.size_toArray] at hcon
    refine hcon.mono ?_
    rintro e w' ⟨rfl, q, rfl⟩
    have hfl : (commonOf xs ys).length ≤ xs.length := by unfold commonOf; exact List.length_filter_le _ _
    refine ⟨some ⟨g, 0, none⟩, cap, rfl, by omega, ?_, ?_⟩
    · refine ⟨rfl, by omega, fun hn => ⟨_, rfl, fun j p hj => ?_⟩⟩
      refine ⟨[.int .i64 p], rfl, rfl, fun i u hu => ?_⟩
      cases i with
      | succ i => simp at hu
      | zero =>
        simp at hu
        subst hu
        obtain ⟨hjl, hjp⟩ := List.getElem?_eq_some_iff.1 hj
        show World.cell? _ ((⟨g, 0, none⟩ : Addr).add (j * 1 + 0)) = _
        rw [Nat.mul_one, Nat.add_zero, YtffcdglhobdlhaaDoorW.PrintWords.add_plain]
        have hsz : ((commonOf xs ys ++ List.replicate (xs.length - (commonOf xs ys).length) (0 : Int)).toArray).size = xs.toArray.size := by simp; omega
        have := cell?_putRow (Value.int .i64) (Sort.ahead W q) g 0 xs.toArray _ (holds_ahead _ _ _ _ _ _ hH) hsz j (by rw [hsz]; simp; omega)
        rw [Nat.zero_add] at this
        rw [this]
        rw [getElem!_pos _ _ (by rw [hsz]; simp; omega)]
        simp [List.getElem_append_left, hjl, hjp]
    · have := below_put (off := 0) (m := q) (dk := (commonOf xs ys ++ List.replicate (xs.length - (commonOf xs ys).length) (0 : Int)).toArray) (os := #[]) hB hg
      have e0 : sortWorld (Value.int .i64) W g 0 q (commonOf xs ys ++ List.replicate (xs.length - (commonOf xs ys).length) (0 : Int)).toArray #[] = putRow (Value.int .i64) (Sort.ahead W q) g 0 (commonOf xs ys ++ List.replicate (xs.length - (commonOf xs ys).length) (0 : Int)).toArray := grow_empty _
      rw [e0] at this
      exact this

/-- slices.Min of a slice with an element. -/
theorem min_calls (A : Option Addr) (c : Nat) (zs : List Int) (w : World) (hr : Kd.C (Kd.int .i64) w A zs.length zs) (hp : 0 < zs.length) :
    Calls Tryd.prog 20 #[.slice A zs.length c] w fun e w' => e = .returned (.int .i64 (Lib.minOf zs)) ∧ w' = w := by
  obtain ⟨b, off, rfl, _, hc⟩ := C_addr hr hp
  have h := Tryd.slices_Min_int b off zs.length c zs w hp (Nat.le_refl _) hr.2.1 hc
  rw [List.take_length] at h
  exact h
end Go.Proofs.YtffcdglhobdlhaaDoor.PA
