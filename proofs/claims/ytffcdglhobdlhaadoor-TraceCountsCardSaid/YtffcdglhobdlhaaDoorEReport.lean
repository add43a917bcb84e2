/- trace.Report: jobs as lines, for numbers below 100 and short names. -/
import Derived.Test.YtffcdglhobdlhaaDoorHelp
import Derived.Test.YtffcdglhobdlhaaDoorShelf
import Derived.StillTailTactics
namespace Go.Proofs.YtffcdglhobdlhaaDoor.PA
open Go.RowKit Go.Proofs.YtffcdglhobdlhaaDoorW.PrintWords Go.Proofs.YtffcdglhobdlhaaDoorW.PrintLast Go.Proofs.YtffcdglhobdlhaaDoorW.PrintMore
open Go.Lib

def wordOf (s : Int) : ByteArray := if s = 1 then ⟨#[119, 97, 105, 116, 115]⟩ else if s = 2 then ⟨#[103, 111, 101, 115]⟩ else if s = 3 then ⟨#[100, 111, 110, 101]⟩ else if s = 4 then ⟨#[102, 97, 105, 108, 101, 100]⟩ else ⟨#[111, 100, 100]⟩
set_option maxRecDepth 100000 in
theorem word_calls (s : Int) (w : World) : Calls Tryd.prog 24 #[.int .i64 s] w fun e w' => e = .returned (.string (wordOf s)) ∧ w' = w := by
  unfold wordOf
  by_cases h1 : s = 1
  · subst h1
    go_enter Tryd.func24, Tryd.ntmps24
    go_wp2
    go_ret
    exact ⟨rfl, rfl⟩
  · by_cases h2 : s = 2
    · subst h2
      go_enter Tryd.func24, Tryd.ntmps24
      go_wp2
      go_ret
      exact ⟨rfl, rfl⟩
    · by_cases h3 : s = 3
      · subst h3
        go_enter Tryd.func24, Tryd.ntmps24
        go_wp2
        go_ret
        exact ⟨rfl, rfl⟩
      · by_cases h4 : s = 4
        · subst h4
          go_enter Tryd.func24, Tryd.ntmps24
          go_wp2
          go_ret
          exact ⟨rfl, rfl⟩
        · rw [if_neg h1, if_neg h2, if_neg h3, if_neg h4]
          have b1 : (s == 1) = false := beq_eq_false_iff_ne.2 h1
          have b2 : (s == 2) = false := beq_eq_false_iff_ne.2 h2
          have b3 : (s == 3) = false := beq_eq_false_iff_ne.2 h3
          have b4 : (s == 4) = false := beq_eq_false_iff_ne.2 h4
          clear h1 h2 h3 h4
          go_enter Tryd.func24, Tryd.ntmps24
          go_wp2
          go_ret
          exact ⟨rfl, rfl⟩

/-- A job's parts, and its line. -/
def partsOf (fleet : List S34) (j : S42) : List ByteArray :=
  [⟨(decDigits j.f0.toNat).toArray⟩, ⟨(decDigits j.f1.toNat).toArray⟩, wordOf j.f2] ++ (if 0 ≤ j.f3 ∧ j.f3 < fleet.length then [(rd_T34 fleet j.f3).f0] else [])
def lineOf (fleet : List S34) (j : S42) : List UInt8 := Lib.join ((partsOf fleet j).map (·.data.toList)) [32] ++ [10]
def small (j : S42) : Prop := 0 ≤ j.f0 ∧ j.f0 < 100 ∧ 0 ≤ j.f1 ∧ j.f1 < 100
instance (j : S42) : Decidable (small j) := by unfold small; exact inferInstance
def reportFits (l0 : List S42) (l1 : List S34) : Prop := l0.length ≤ 1000 ∧ l1.length ≤ 1000 ∧ (∀ j ∈ l0, small j) ∧ ∀ p ∈ l1, p.f0.size ≤ 1000
instance (l0 : List S42) (l1 : List S34) : Decidable (reportFits l0 l1) := by unfold reportFits; exact inferInstance
def trace_Report.f (l0 : List (S42)) (l1 : List (S34)) : Option (ByteArray) := if reportFits l0 l1 then some ⟨(l0.flatMap (lineOf l1)).toArray⟩ else none

theorem builder_below {T e : TypeId} {B b : Nat} {bs : List Value} {w w' : World} (h : IsBuilder T e B b bs w) (hb : Below w.heap.size w w') : IsBuilder T e B b bs w' := by
  have go : ∀ p, BuilderAt T e B b p bs w → BuilderAt T e B b p bs w' := by
    rintro p ⟨h1, v, h2, h3, h4⟩
    refine ⟨h1, v, ?_, pw_own_below h3 hb, h4⟩
    rw [hb.block b (by
      rcases Nat.lt_or_ge b w.heap.size with h | h
      · exact h
      · rw [Array.getElem?_eq_none h] at h2; cases h2)]
    exact h2
  exact h.imp (go _) (go _)

theorem write_calls (B b : Nat) (bs : List Value) (s : ByteArray) (w : World) (h : IsBuilder 52 5 B b bs w) (hlen : bs.length + s.size ≤ 140737488355328) (hBw : B ≤ w.heap.size) :
    Calls Tryd.prog 25 #[.pointer (some ⟨b, 0, none⟩), .string s] w fun e w' => e = .returned (.tuple #[.int .i64 s.size, .nilIface]) ∧ (BuilderAt 52 5 B b (.pointer (some ⟨b, 0, none⟩)) (bs ++ strCells s) w' ∧ Below B w w') :=
  Any.Builder_WriteString (ρ := Tryd.lays156_ren) { Tryd.lays156 with } Tryd.Builder_Extra_156 B b bs s w h hlen hBw

theorem dec_len (u : Nat) (h : u < 100) : (decDigits u).length ≤ 2 := by
  unfold decDigits
  split
  · simp
  · rw [List.length_append]
    have h2 : u / 10 < 10 := by omega
    unfold decDigits
    rw [dif_pos h2]
    simp
theorem word_len (s : Int) : (wordOf s).data.toList.length ≤ 6 := by
  unfold wordOf
  repeat' split
  all_goals decide
theorem join_len (sep : List UInt8) (h : sep.length = 1) : ∀ l : List (List UInt8), (Lib.join l sep).length ≤ (l.map List.length).sum + l.length
  | [] => by simp [Lib.join_nil]
  | x :: r => by
    rw [Lib.join_cons, List.length_append]
    have : ∀ r : List (List UInt8), (Lib.joinTail sep r).length = (r.map List.length).sum + r.length := by
      intro r
      induction r with
      | nil => rfl
      | cons y r ih => simp [Lib.joinTail, List.map_cons, List.flatten_cons] at ih ⊢; omega
    rw [this]
    simp
    omega
theorem parts_len (fleet : List S34) (hf : ∀ p ∈ fleet, p.f0.size ≤ 1000) (j : S42) (hj : small j) : (partsOf fleet j).length ≤ 4 ∧ (Lib.join ((partsOf fleet j).map (·.data.toList)) [32]).length ≤ 1020 := by
  have h1 := dec_len j.f0.toNat (by unfold small at hj; omega)
  have h2 := dec_len j.f1.toNat (by unfold small at hj; omega)
  have h3 := word_len j.f2
  have hp : (partsOf fleet j).length ≤ 4 := by unfold partsOf; split <;> simp
  refine ⟨hp, ?_⟩
  have hl := join_len [32] rfl ((partsOf fleet j).map (·.data.toList))
  have hs : (((partsOf fleet j).map (·.data.toList)).map List.length).sum ≤ 2 + 2 + 6 + 1000 := by
    unfold partsOf
    by_cases hc : 0 ≤ j.f3 ∧ j.f3 < fleet.length
    · rw [if_pos hc]
      have hm : (rd_T34 fleet j.f3).f0.size ≤ 1000 := by
        have hi : j.f3.toNat < fleet.length := by omega
        have : rd_T34 fleet j.f3 = fleet[j.f3.toNat] := by simp [rd_T34, List.getD_eq_getElem?_getD, hi]
        rw [this]
        exact hf _ (List.getElem_mem hi)
      have hm2 : (rd_T34 fleet j.f3).f0.data.toList.length ≤ 1000 := by simpa using hm
      simp at h1 h2 h3 hm2 ⊢
      omega
    · rw [if_neg hc]
      simp at h1 h2 h3 ⊢
      omega
  rw [List.length_map] at hl
  omega

theorem itoa_calls (x : Int) (h0 : 0 ≤ x) (h1 : x < 100) (w : World) : Calls Tryd.prog 23 #[.int .i64 x] w fun e w' => e = .returned (.string ⟨(decDigits x.toNat).toArray⟩) ∧ w' = w := by
  obtain ⟨n, rfl⟩ := Int.eq_ofNat_of_zero_le h0
  rw [Int.toNat_natCast]
  exact Tryd.strconv_Itoa_small n (by omega) w
theorem join_calls (v : Value) (xs : List ByteArray) (sep : ByteArray) (w : World) (base : Nat) (ok : Nat → Prop) (ho : Kd.R Kd.string 9 w base ok v xs) (hn : 0 < xs.length) (hlen : (Lib.join (xs.map (·.data.toList)) sep.data.toList).length ≤ 140737488355328) (hx : xs.length ≤ 140737488355328) :
    Calls Tryd.prog 26 #[v, .string sep] w fun e w' => e = .returned (.string ⟨(Lib.join (xs.map (·.data.toList)) sep.data.toList).toArray⟩) ∧ Below w.heap.size w w' := by
  have hown := Kd.own_of_R ho
  obtain ⟨g, cap, rfl, hg, hlt⟩ := hown.form hn
  have hcells := hown.cells (g := g) rfl
  have hcap : xs.length ≤ cap := by
    rcases hown.2 with ⟨e, _⟩ | ⟨g', cap', cur, e, _, hh, h1, h2, _⟩
    · cases e
    · cases e
      exact h1
  refine Tryd.strings_Join g 0 cap xs sep w (fun j x hj => ?_) hlt hx hcap hlen
  have := hcells j (.string x) (by simp [encs, hj])
  rw [YtffcdglhobdlhaaDoorW.PrintWords.add_plain] at this
  rw [Nat.zero_add]
  exact this
theorem info9 : (Tryd.prog.info? 9).map (fun i => (i.zero, i.size, i.bytes)) = some (some (.string ⟨#[]⟩), 1, 16) := by kernel_rfl
theorem line_len (fleet : List S34) (hf : ∀ p ∈ fleet, p.f0.size ≤ 1000) (j : S42) (hj : small j) : (lineOf fleet j).length ≤ 1021 := by
  have := (parts_len fleet hf j hj).2
  unfold lineOf
  rw [List.length_append]
  simp only [List.length_singleton]
  omega
theorem lines_len (fleet : List S34) (hf : ∀ p ∈ fleet, p.f0.size ≤ 1000) : ∀ l : List S42, (∀ j ∈ l, small j) → (l.flatMap (lineOf fleet)).length ≤ l.length * 1021
  | [], _ => by simp
  | j :: r, h => by
    have h1 := line_len fleet hf j (h j (by simp))
    have h2 := lines_len fleet hf r (fun x hx => h x (by simp [hx]))
    rw [List.flatMap_cons, List.length_append, List.length_cons, Nat.succ_mul]
    omega
theorem flat_snoc (fleet : List S34) (l : List S42) (i : Nat) (h : i < l.length) : (l.take (i + 1)).flatMap (lineOf fleet) = (l.take i).flatMap (lineOf fleet) ++ lineOf fleet l[i] := by
  rw [List.take_succ_eq_append_getElem h, List.flatMap_append]
  simp
theorem cells_snoc (a b : List UInt8) : byteCells a ++ strCells ⟨b.toArray⟩ = byteCells (a ++ b) := by
  simp [strCells, byteCells]
theorem str_line (fleet : List S34) (j : S42) : ((⟨(Lib.join ((partsOf fleet j).map fun x => x.data.toList) [32]).toArray⟩ : ByteArray) ++ ⟨#[10]⟩) = ⟨(lineOf fleet j).toArray⟩ := by
  apply ByteArray.ext
  simp [lineOf, ByteArray.data_append]
theorem write_fits {a b : List UInt8} {i n : Nat} (h1 : a.length ≤ min i n * 1021) (h2 : b.length ≤ 1021) (hn : n ≤ 1000) : (byteCells a).length + (⟨b.toArray⟩ : ByteArray).size ≤ 140737488355328 := by
  have h3 : min i n ≤ 1000 := by omega
  have h4 : min i n * 1021 ≤ 1000 * 1021 := Nat.mul_le_mul_right _ h3
  have h5 : (⟨b.toArray⟩ : ByteArray).size = b.length := by simp [ByteArray.size]
  rw [byteCells_length, h5]
  omega
theorem joined_size (fleet : List S34) (hf : ∀ p ∈ fleet, p.f0.size ≤ 1000) (j : S42) (hj : small j) : (⟨(Lib.join ((partsOf fleet j).map fun x => x.data.toList) [32]).toArray⟩ : ByteArray).size ≤ 1020 := by
  have := (parts_len fleet hf j hj).2
  simpa [ByteArray.size] using this
theorem job_at {w : World} {A : Option Addr} {xs : List S42} (h : Kd.C k42 w A xs.length xs) (i : Nat) (hi : i < xs.length) :
    ∃ ad, A = some ad ∧ w.cell? (ad.add (i * 4)) = some (.int .i64 xs[i].f0) ∧ w.cell? ⟨(ad.add (i * 4)).block, (ad.add (i * 4)).off + 1, none⟩ = some (.int .i64 xs[i].f1) ∧ w.cell? ⟨(ad.add (i * 4)).block, (ad.add (i * 4)).off + 2, none⟩ = some (.int .i64 xs[i].f2) ∧ w.cell? ⟨(ad.add (i * 4)).block, (ad.add (i * 4)).off + 3, none⟩ = some (.int .i64 xs[i].f3) := by
  obtain ⟨ad, e, h0, h1, h2, h3⟩ := at_T42 h (i : Int) (by omega) (by omega)
  have hx : rd_T42 xs (i : Int) = xs[i] := by simp [rd_T42, List.getD_eq_getElem?_getD, hi]
  rw [hx, Int.toNat_natCast] at h0 h1 h2 h3
  exact ⟨ad, e, h0, h1, h2, h3⟩

set_option maxHeartbeats 4000000 in
set_option maxRecDepth 100000 in
theorem trace_Report.calls (A0 : Option Addr) (c0 : Nat) (l0 : List (S42)) (A1 : Option Addr) (c1 : Nat) (l1 : List (S34)) (r : ByteArray) (w : World) (hr0 : Kd.C k42 w A0 l0.length l0) (hc0 : l0.length ≤ c0) (hr1 : Kd.C k34 w A1 l1.length l1) (hc1 : l1.length ≤ c1) (h : trace_Report.f l0 l1 = some r) :
    Calls Tryd.prog 13 #[.slice A0 l0.length c0, .slice A1 l1.length c1] w fun e w' => e = .returned (.string r) ∧ Below w.heap.size w w' := by
  unfold trace_Report.f at h
  by_cases hf : reportFits l0 l1
  case neg => rw [if_neg hf] at h; cases h
  rw [if_pos hf] at h
  have hres := Option.some.inj h
  clear h
  obtain ⟨hl0, hl1, hsm, hnm⟩ := hf
  have HR0 := Aside0.mk hr0
  have HR1 := Aside0.mk hr1
  have HS := Aside0.mk hsm
  have HN := Aside0.mk hnm
  have HRES := Aside0.mk hres
  have HLL := Aside0.mk (lines_len l1 hnm)
  clear hr0 hc0 hr1 hc1 hsm hnm hres
  have HB0 := Aside0.mk ((Below.refl w.heap.size w).alloc (Nat.le_refl _) (.cells #[.pointer none, .slice none 0 0] 52))
  have HI0 : Aside0 (IsBuilder 52 5 w.heap.size w.heap.size (byteCells ((l0.take 0).flatMap (lineOf l1))) (w.alloc (.cells #[.pointer none, .slice none 0 0] 52))) :=
    ⟨.inl ⟨Nat.le_refl _, .slice none 0 0, heap_alloc_new w _, World.ownsRow_nil _ _ _ _, by simp [Value.ownBlock]⟩⟩
  go_enter Tryd.func13, Tryd.ntmps13
  go_wp2_with fail
  go_loopg [11] l0.length (fun k v11 wr => ∃ i : Nat, i ≤ l0.length ∧ k = l0.length - i ∧ v11 = .int .i64 i ∧ Aside0 (IsBuilder 52 5 w.heap.size w.heap.size (byteCells ((l0.take i).flatMap (lineOf l1))) wr) ∧ Aside0 (Below w.heap.size w wr))
  case atStart => exact ⟨0, Nat.zero_le _, rfl, rfl, HI0, HB0⟩
  case round =>
    clear HI0 HB0
    obtain ⟨i, hi, rfl, rfl, HI, HB⟩ := hrel
    by_cases hlt : i < l0.length
    · obtain ⟨ad, e, x0, x1, x2, x3⟩ := job_at (Kd.C_below HR0.out HB.out) i hlt
      cases e
      have hj := HS.out l0[i] (List.getElem_mem hlt)
      have hfs := flat_snoc l1 l0 i hlt
      have hll := HLL.out (l0.take i) (fun j hj => HS.out j (List.mem_of_mem_take hj))
      rw [List.length_take] at hll
      obtain ⟨j, hje⟩ : ∃ j, l0[i] = j := ⟨_, rfl⟩
      rw [hje] at x0 x1 x2 x3 hj hfs
      have HLI := Aside0.mk hll
      have HJ := Aside0.mk hj
      have HFS := Aside0.mk hfs
      clear hje hj hfs hll
      have HI1 := itoa_calls j.f0 HJ.out.1 HJ.out.2.1
      have HI2 := itoa_calls j.f1 HJ.out.2.2.1 HJ.out.2.2.2
      have HA1 := Aside0.mk HI1
      have HA2 := Aside0.mk HI2
      clear HI1 HI2
      go_wp2_with fail
      obtain ⟨W1, hW1⟩ : ∃ W1, wr.alloc (.cells #[.int .i64 j.f0, .int .i64 j.f1, .int .i64 j.f2, .int .i64 j.f3] 42) = W1 := ⟨_, rfl⟩
      rw [hW1]
      refine wp_region_still_tail 9 (by kernel_rfl) (by kernel_rfl) ?_
      obtain ⟨W2, hW2⟩ : ∃ W2, ({ W1 with drawn := W1.drawn + 1 } : World) = W2 := ⟨_, rfl⟩
      rw [hW2]
      have y0 : W2.cell? ⟨wr.heap.size, 0, none⟩ = some (.int .i64 j.f0) := by rw [← hW2, ← hW1]; exact World.cell?_alloc_new wr _ _ _
      have y1 : W2.cell? ⟨wr.heap.size, 1, none⟩ = some (.int .i64 j.f1) := by rw [← hW2, ← hW1]; exact World.cell?_alloc_new wr _ _ _
      have y2 : W2.cell? ⟨wr.heap.size, 2, none⟩ = some (.int .i64 j.f2) := by rw [← hW2, ← hW1]; exact World.cell?_alloc_new wr _ _ _
      have y3 : W2.cell? ⟨wr.heap.size, 3, none⟩ = some (.int .i64 j.f3) := by rw [← hW2, ← hW1]; exact World.cell?_alloc_new wr _ _ _
      have hsz2 : wr.heap.size < W2.heap.size := by rw [← hW2, ← hW1]; simp
      have hb2 : Below wr.heap.size wr W2 := by rw [← hW2, ← hW1]; exact ((Below.refl _ _).alloc (Nat.le_refl _) _).drew
      have HBW := Aside0.mk hb2
      clear hW1 hW2 hb2
      simp only [List.take_succ_cons, List.take_zero, List.drop_succ_cons, List.drop_zero]
      repeat still_step
      still_call (HA1.out _)
      repeat still_step
      still_call (HA2.out _)
      repeat still_step
      still_call (word_calls _ _)
      repeat still_step
      refine wpStill_nil ?_
      generalize hp0 : (⟨(decDigits j.f0.toNat).toArray⟩ : ByteArray) = p0
      generalize hp1 : (⟨(decDigits j.f1.toNat).toArray⟩ : ByteArray) = p1
      generalize hp2 : wordOf j.f2 = p2
      have HP0 := Aside0.mk hp0
      have HP1 := Aside0.mk hp1
      have HP2 := Aside0.mk hp2
      clear hp0 hp1 hp2 HA1 HA2 x0 x1 x2 x3
      refine Kd.R_lit Kd.string _ 9 ?hg (N := 24) ?hd (xs := [p0, p1, p2]) (inner := [.string p0, .string p1, .string p2]) (ok := fun _ => True) (okp := fun _ => True) ?hr ?hp (fun _ hk => hk) trivial (Below.refl _ _) (Nat.le_refl _) (by simp) ?_
      case hd => rfl
      case hg => rfl
      case hr => first | (go_simp; done) | (go_simp; rfl)
      case hp => exact (Reps.one (show Kd.M Kd.string _ _ _ p0 [.string p0] from rfl) (Reps.one (show Kd.M Kd.string _ _ _ p1 [.string p1] from rfl) (Reps.one (show Kd.M Kd.string _ _ _ p2 [.string p2] from rfl) (Reps.none _ _))))
      intro v3 W3 ho3 hb3 hg3 hnew3
      have HO3 := Aside0.mk ho3
      have HB23 := Aside0.mk hb3
      have HW2 := Aside0.mk (And.intro HBW.out hsz2)
      have HN3 := Aside0.mk hnew3
      have z3 : W3.cell? ⟨wr.heap.size, 3, none⟩ = some (.int .i64 j.f3) := (hb3.cell (p := ⟨wr.heap.size, 3, none⟩) hsz2).trans y3
      have HW3 := Aside0.mk (And.intro (HBW.out.trans (hb3.mono HBW.out.size)) (Nat.lt_of_lt_of_le hsz2 hb3.size))
      have HP := Aside0.mk (parts_len l1 HN.out j HJ.out)
      have HPE : Aside0 (partsOf l1 j = [p0, p1, p2] ++ (if 0 ≤ j.f3 ∧ j.f3 < l1.length then [(rd_T34 l1 j.f3).f0] else [])) := ⟨by unfold partsOf; rw [HP0.out, HP1.out, HP2.out]⟩
      clear ho3 hb3 hg3 hnew3 y0 y1 y2 y3 HBW hsz2 HP0 HP1 HP2
      by_cases hv : 0 ≤ j.f3
      · have hvb : decide (0 ≤ j.f3) = true := decide_eq_true hv
        by_cases hv2 : j.f3 < l1.length
        · have hvb2 : decide (j.f3 < (l1.length : Int)) = true := decide_eq_true hv2
          have hpe := HPE.out
          rw [if_pos ⟨hv, hv2⟩] at hpe
          have HPF := Aside0.mk hpe
          clear HPE hpe
          obtain ⟨ad1, e1, n0, n1⟩ := at_T34 (Kd.C_below HR1.out (HB.out.trans (HW3.out.1.mono HB.out.size))) j.f3 hv hv2
          cases e1
          clear n1
          generalize hnm : (rd_T34 l1 j.f3).f0 = nm at n0 HPF
          go_wp2_with ((with_reducible refine gate_builtin (b := .append) (xs := #[.tmp 35, .tmp 42]) rfl ?_); at_builtin; refine Kd.R_append Kd.string (w0 := W2) W2.heap.size rfl (.tmp 35) (.tmp 42) 54 9 (.string ⟨#[]⟩) 16 rfl Tryd.underlying54 info9 rfl (by decide) (by omega) v3 [p0, p1, p2] nm [.string nm] (fun _ => True) (fun _ => False) rfl rfl ?aP (fun _ hk => hk.elim) ?aF ?aO ?aB ?aS ?aL ?_; (case aP => rfl); (case aF => exact fun _ _ => trivial); (case aO => exact HO3.out); (case aB => exact HB23.out); (case aS => exact HB23.out.size); (case aL => simp); intro v4 W4 ho4 hb4 hg4 hat4; clear hg4 hat4)
          refine (join_calls v4 ([p0, p1, p2] ++ [nm]) _ W4 _ _ ho4 (by simp) (by rw [← HPF.out]; have := HP.out.2; exact Nat.le_trans this (by decide)) (by simp)).mono ?_
          rintro e W5 ⟨rfl, hb5⟩
          have hw5 : Below wr.heap.size wr W5 := (HW2.out.1.trans (hb4.mono HW2.out.1.size)).trans (hb5.mono (Nat.le_trans HW2.out.1.size hb4.size))
          rw [← HPF.out]
          have hjz := joined_size l1 HN.out j HJ.out
          generalize hjs : (⟨(Lib.join ((partsOf l1 j).map fun x => x.data.toList) [32]).toArray⟩ : ByteArray) = js at hjz ⊢
          have HJS := Aside0.mk hjs
          clear hjs
          have HW5 := Aside0.mk hw5
          clear hb4 hb5 ho4 HW2 HW3 HB23 HO3 hw5
          go_wp2_with fail
          rw [show js ++ (⟨#[10]⟩ : ByteArray) = ⟨(lineOf l1 j).toArray⟩ from by rw [← HJS.out]; exact str_line l1 j]
          refine (write_calls w.heap.size w.heap.size _ ⟨(lineOf l1 j).toArray⟩ W5 (builder_below HI.out HW5.out) (write_fits HLI.out (line_len l1 HN.out j HJ.out) hl0) (Nat.le_trans HB.out.size HW5.out.size)).mono ?_
          rintro e W6 ⟨rfl, hbu, hb6⟩
          rw [cells_snoc, ← HFS.out] at hbu
          have HI6 : Aside0 (IsBuilder 52 5 w.heap.size w.heap.size (byteCells ((l0.take (i + 1)).flatMap (lineOf l1))) W6) := ⟨.inr hbu⟩
          have HB6 := Aside0.mk ((HB.out.trans (HW5.out.mono HB.out.size)).trans hb6)
          clear hbu hb6
          go_wp2
          go_roundg (l0.length - (i + 1))
          case measure => omega
          case rel => exact ⟨i + 1, by omega, rfl, by go_num, HI6, HB6⟩
        · have hvb2 : decide (j.f3 < (l1.length : Int)) = false := decide_eq_false hv2
          have hpe := HPE.out
          rw [if_neg (fun h => hv2 h.2), List.append_nil] at hpe
          have HPF := Aside0.mk hpe
          clear HPE hpe
          go_wp2_with fail
          refine (join_calls v3 [p0, p1, p2] _ W3 _ _ HO3.out (by simp) (by rw [← HPF.out]; have := HP.out.2; exact Nat.le_trans this (by decide)) (by simp)).mono ?_
          rintro e W5 ⟨rfl, hb5⟩
          have hw5 : Below wr.heap.size wr W5 := HW3.out.1.trans (hb5.mono HW3.out.1.size)
          rw [← HPF.out]
          have hjz := joined_size l1 HN.out j HJ.out
          generalize hjs : (⟨(Lib.join ((partsOf l1 j).map fun x => x.data.toList) [32]).toArray⟩ : ByteArray) = js at hjz ⊢
          have HJS := Aside0.mk hjs
          clear hjs
          have HW5 := Aside0.mk hw5
          clear hb5 HW2 HW3 HB23 HO3 hw5
          go_wp2_with fail
          rw [show js ++ (⟨#[10]⟩ : ByteArray) = ⟨(lineOf l1 j).toArray⟩ from by rw [← HJS.out]; exact str_line l1 j]
          refine (write_calls w.heap.size w.heap.size _ ⟨(lineOf l1 j).toArray⟩ W5 (builder_below HI.out HW5.out) (write_fits HLI.out (line_len l1 HN.out j HJ.out) hl0) (Nat.le_trans HB.out.size HW5.out.size)).mono ?_
          rintro e W6 ⟨rfl, hbu, hb6⟩
          rw [cells_snoc, ← HFS.out] at hbu
          have HI6 : Aside0 (IsBuilder 52 5 w.heap.size w.heap.size (byteCells ((l0.take (i + 1)).flatMap (lineOf l1))) W6) := ⟨.inr hbu⟩
          have HB6 := Aside0.mk ((HB.out.trans (HW5.out.mono HB.out.size)).trans hb6)
          clear hbu hb6
          go_wp2
          go_roundg (l0.length - (i + 1))
          case measure => omega
          case rel => exact ⟨i + 1, by omega, rfl, by go_num, HI6, HB6⟩
      · have hvb : decide (0 ≤ j.f3) = false := decide_eq_false hv
        have hpe := HPE.out
        rw [if_neg (fun h => hv h.1), List.append_nil] at hpe
        have HPF := Aside0.mk hpe
        clear HPE hpe
        go_wp2_with fail
        refine (join_calls v3 [p0, p1, p2] _ W3 _ _ HO3.out (by simp) (by rw [← HPF.out]; have := HP.out.2; exact Nat.le_trans this (by decide)) (by simp)).mono ?_
        rintro e W5 ⟨rfl, hb5⟩
        have hw5 : Below wr.heap.size wr W5 := HW3.out.1.trans (hb5.mono HW3.out.1.size)
        rw [← HPF.out]
        have hjz := joined_size l1 HN.out j HJ.out
        generalize hjs : (⟨(Lib.join ((partsOf l1 j).map fun x => x.data.toList) [32]).toArray⟩ : ByteArray) = js at hjz ⊢
        have HJS := Aside0.mk hjs
        clear hjs
        have HW5 := Aside0.mk hw5
        clear hb5 HW2 HW3 HB23 HO3 hw5
        go_wp2_with fail
        rw [show js ++ (⟨#[10]⟩ : ByteArray) = ⟨(lineOf l1 j).toArray⟩ from by rw [← HJS.out]; exact str_line l1 j]
        refine (write_calls w.heap.size w.heap.size _ ⟨(lineOf l1 j).toArray⟩ W5 (builder_below HI.out HW5.out) (write_fits HLI.out (line_len l1 HN.out j HJ.out) hl0) (Nat.le_trans HB.out.size HW5.out.size)).mono ?_
        rintro e W6 ⟨rfl, hbu, hb6⟩
        rw [cells_snoc, ← HFS.out] at hbu
        have HI6 : Aside0 (IsBuilder 52 5 w.heap.size w.heap.size (byteCells ((l0.take (i + 1)).flatMap (lineOf l1))) W6) := ⟨.inr hbu⟩
        have HB6 := Aside0.mk ((HB.out.trans (HW5.out.mono HB.out.size)).trans hb6)
        clear hbu hb6
        go_wp2
        go_roundg (l0.length - (i + 1))
        case measure => omega
        case rel => exact ⟨i + 1, by omega, rfl, by go_num, HI6, HB6⟩
    · have HE := HRES.out
      have HIe := HI.out
      rw [List.take_of_length_le (by omega)] at HIe
      have HI2 := Aside0.mk HIe
      clear HIe HI
      go_wp2_with fail
      refine (Tryd.Builder_String_any w.heap.size w.heap.size _ wr HI2.out HB.out.size).mono ?_
      rintro e W6 ⟨rfl, hb6⟩
      have HB6 := Aside0.mk (HB.out.trans hb6)
      rw [HE]
      clear hb6 HE
      go_wp2
      go_ret
      exact ⟨rfl, HB6.out⟩
end Go.Proofs.YtffcdglhobdlhaaDoor.PA
