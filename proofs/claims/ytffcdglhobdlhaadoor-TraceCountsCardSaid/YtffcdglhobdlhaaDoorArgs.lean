/- What a row's arguments of the types [][]int and []Job are, as lists that the contracts read. -/
import Derived.Test.YtffcdglhobdlhaaDoorPAx0
import Derived.Deep.Matrix
import Derived.Deep.Slices
import Derived.SizedLaws
import Derived.OpenShut
namespace Go.Proofs.YtffcdglhobdlhaaDoor.PA
open Go.ChangeShapes Go.WideShapes Go.RowKit Go.Deep Go.Proofs.YtffcdglhobdlhaaDoorW.PrintWords

theorem weights_in {H : Type} {P : Program} {e : TypeId} {d : DataW H} : ∀ {es : List (DataW H)}, d ∈ es → ∀ n ∈ d.weights P e, n ∈ DataW.weightsAll P e es
  | c :: es, hd, n, hn => by
    simp only [DataW.weightsAll, List.mem_append]
    rcases List.mem_cons.1 hd with rfl | h
    · exact Or.inl hn
    · exact Or.inr (weights_in h n hn)
theorem inner_size {H : Type} {P : Program} {ts : List TypeId} {ds : List (DataW H)} (h : (DataW.weightsEach P ts ds).all (· ≤ reachBytes) = true) {j : Nat} {t e q : TypeId} {elems spare e' sp' : List (DataW H)}
    (ht : ts[j]? = some t) (hd : ds[j]? = some (.slice elems spare)) (hu : P.underlying t = some (.slice e)) (hu2 : P.underlying e = some (.slice q)) (hx : DataW.slice e' sp' ∈ elems) : (e'.length + sp'.length) * P.bytesOf q ≤ reachBytes := by
  refine of_decide_eq_true (List.all_eq_true.1 h _ (DataW.weights_mem_each ht hd _ ?_))
  simp only [DataW.weights, hu, List.mem_cons, List.mem_append]
  exact Or.inr (Or.inl (weights_in hx _ (by simp [DataW.weights, hu2])))

theorem C_ints {w : World} {A : Option Addr} {L C : Nat} {Z : List Int} (hl : L ≤ C) (hm : C ≤ maxLen) (hz : Z.length = C) (hn : A = none → C = 0) (hc : ∀ a', A = some a' → ∀ c, c < C → w.cell? (a'.add c) = some (.int .i64 (Z.getD c 0))) :
    Kd.C (Kd.int .i64) w A (Z.take L).length (Z.take L) := by
  have hlen : (Z.take L).length = L := by rw [List.length_take]; omega
  have hmax : maxLen ≤ 9223372036854775807 := by decide
  refine ⟨rfl, by rw [hlen]; omega, fun h0 => ?_⟩
  rw [hlen] at h0
  cases A with
  | none => have := hn rfl; omega
  | some ad =>
    refine ⟨ad, rfl, fun j p hj => ⟨[.int .i64 p], rfl, rfl, fun i u hu => ?_⟩⟩
    obtain ⟨hj1, hj2⟩ := List.getElem?_eq_some_iff.1 hj
    rw [hlen] at hj1
    have hi : i = 0 := by
      have := (List.getElem?_eq_some_iff.1 hu).1
      simp at this
      omega
    subst hi
    obtain rfl : u = .int .i64 p := by simpa using hu.symm
    have h2 := hc ad rfl j (by omega)
    rw [show j * (Kd.int .i64).sz + 0 = j by show j * 1 + 0 = j; omega, h2]
    rw [List.getElem_take] at hj2
    simp [List.getD_eq_getElem?_getD, show j < Z.length by omega, hj2]

/-- [][]int. -/
theorem open_rows {H : Type} {enc : TypeId × Value → H} {W : World} {a : Option Addr} {len cap : Nat} {d : DataW H} {ps : List MemPlace} {ts : List TypeId} {ds : List (DataW H)} {j : Nat}
    (hsz : (DataW.weightsEach Tryd.prog ts ds).all (· ≤ reachBytes) = true) (ht : ts[j]? = some 22) (hd : ds[j]? = some d)
    (h : DataW.Trod enc Tryd.prog W 0 (fun _ => true) true 22 (.slice a len cap) d ps) :
    ∃ l : List (List Int), len = l.length ∧ l.length ≤ cap ∧ Kd.C (Kd.slice 3 (Kd.int .i64)) W a l.length l ∧ l.length ≤ maxLen ∧ ∀ y ∈ l, y.length * 8 ≤ 140737488355328 := by
  obtain ⟨fuel, hf⟩ := h
  have b3 : Tryd.prog.bytesOf 3 = 8 := by kernel_rfl
  rcases open_int_rows Tryd.underlying22 Tryd.underlying26 Tryd.underlying3 (by kernel_rfl) (by kernel_rfl) hf with ⟨hcs, _⟩ | ⟨x, l, c, A, L, C, Z, hcs, _, hl, hm, hx, hr⟩
  · simp [Value.cells] at hcs
    obtain ⟨rfl, rfl, rfl⟩ := hcs
    exact ⟨[], rfl, Nat.le_refl _, Kd.C_nil _ _, by simp, by simp⟩
  · simp [Value.cells] at hcs
    obtain ⟨rfl, rfl, rfl⟩ := hcs
    obtain ⟨hx, _⟩ := Prod.mk.inj hx
    subst hx
    have hmax : maxLen ≤ 9223372036854775807 := by decide
    refine ⟨(List.range len).map fun r => (Z r).take (L r), by simp, by simpa using hl, ?_, by simp; omega, ?_⟩
    · refine ⟨rfl, by simp; omega, fun h0 => ⟨x, rfl, fun k p hk => ?_⟩⟩
      obtain ⟨hk1, hk2⟩ := List.getElem?_eq_some_iff.1 hk
      have hk3 : k < len := by simpa using hk1
      obtain ⟨r1, r2, r3, r4, r5, r6, r7⟩ := hr k (by omega)
      obtain rfl : (Z k).take (L k) = p := by simpa using hk2
      refine ⟨[.slice (A k) (L k) (C k)], rfl, ⟨A k, C k, ?_, ?_, C_ints r2 r3 r4 r6 (fun a' ha c hc => (r7 a' ha).2 c hc)⟩, fun i u hu => ?_⟩
      · rw [List.length_take, r4, Nat.min_eq_left r2]
      · rw [List.length_take, r4, Nat.min_eq_left r2]; exact r2
      · have hi : i = 0 := by
          have := (List.getElem?_eq_some_iff.1 hu).1
          simp at this
          omega
        subst hi
        obtain rfl : u = .slice (A k) (L k) (C k) := by simpa using hu.symm
        rw [show k * (Kd.slice 3 (Kd.int .i64)).sz + 0 = k by show k * 1 + 0 = k; omega]
        exact r1
    · intro y hy
      obtain ⟨r, hr1, rfl⟩ := List.mem_map.1 hy
      have hr2 : r < len := List.mem_range.1 hr1
      obtain ⟨r1, r2, r3, r4, r5, r6, r7⟩ := hr r (by omega)
      cases hA : A r with
      | none =>
        have := r6 hA
        have : ((Z r).take (L r)).length ≤ 0 := by rw [List.length_take]; omega
        omega
      | some a' =>
        have hin : DataW.slice (lits (H := H) .i64 ((Z r).take (L r))) (lits .i64 ((Z r).drop (L r))) ∈ (List.range len).map fun r => intRow (H := H) .i64 (A r) (L r) (Z r) :=
          List.mem_map.2 ⟨r, hr1, by simp [intRow, hA]⟩
        have z := inner_size hsz ht hd Tryd.underlying22 Tryd.underlying26 hin
        rw [b3] at z
        have hR : reachBytes ≤ 140737488355328 := by decide
        have : (lits (H := H) .i64 ((Z r).take (L r))).length = ((Z r).take (L r)).length := by simp [lits]
        rw [this] at z
        have h2 : ((Z r).take (L r)).length * 8 ≤ (((Z r).take (L r)).length + (lits (H := H) .i64 ((Z r).drop (L r))).length) * 8 := Nat.mul_le_mul_right _ (Nat.le_add_right _ _)
        omega

/-- []Job. -/
theorem open_jobs {H : Type} {enc : TypeId × Value → H} {W : World} {a : Option Addr} {len cap : Nat} {d : DataW H} {ps : List MemPlace}
    (h : DataW.Trod enc Tryd.prog W 0 (fun _ => true) true 32 (.slice a len cap) d ps) :
    ∃ l : List S42, len = l.length ∧ l.length ≤ cap ∧ Kd.C k42 W a l.length l ∧ l.length ≤ maxLen ∧ ∀ y ∈ l, (Lit.int .i64 y.f0).wf = true ∧ (Lit.int .i64 y.f1).wf = true ∧ (Lit.int .i64 y.f2).wf = true ∧ (Lit.int .i64 y.f3).wf = true := by
  obtain ⟨fuel, hf⟩ := h
  have c42 : Tryd.prog.cellsOf 42 = 4 := by kernel_rfl
  have c3 : Tryd.prog.cellsOf 3 = 1 := by kernel_rfl
  rcases open_slice Tryd.underlying32 hf with ⟨hcs, _⟩ | ⟨x, l, c, m, n, D, Pl, hcs, _, hl, hm, hmm, hx, hi⟩
  · simp [Value.cells] at hcs
    obtain ⟨rfl, rfl, rfl⟩ := hcs
    exact ⟨[], rfl, Nat.le_refl _, Kd.C_nil _ _, by simp, by simp⟩
  · simp [Value.cells] at hcs
    obtain ⟨rfl, rfl, rfl⟩ := hcs
    simp at hmm
    subst hmm
    rw [c42] at hi
    have hmax : maxLen ≤ 9223372036854775807 := by decide
    have each : ∀ i, ∃ y : S42, i < len → ((Lit.int .i64 y.f0).wf = true ∧ (Lit.int .i64 y.f1).wf = true ∧ (Lit.int .i64 y.f2).wf = true ∧ (Lit.int .i64 y.f3).wf = true) ∧
        ∀ k u, [Value.int .i64 y.f0, .int .i64 y.f1, .int .i64 y.f2, .int .i64 y.f3][k]? = some u → W.cell? (x.add (i * 4 + k)) = some u := by
      intro i
      by_cases hil : i < len
      case neg => exact ⟨z42, fun h => absurd h hil⟩
      obtain ⟨cs, hc, ht⟩ := hi i (by omega)
      obtain ⟨ys, n', _, _, hlen, hyl, hfs⟩ := DataW.trod_struct Tryd.underlying42 ht
      obtain ⟨_, hcl, hat⟩ := World.cells?_some hc
      rw [c42] at hlen
      match cs, hlen with
      | [v0, v1, v2, v3], _ =>
        have e0 : DataW.trod enc Tryd.prog W 0 (fun _ => true) true n' 3 (([v0, v1, v2, v3].drop 0).take (Tryd.prog.cellsOf 3)) = ys[0]? := hfs 0 _ rfl
        rw [c3] at e0
        have e1 : DataW.trod enc Tryd.prog W 0 (fun _ => true) true n' 3 (([v0, v1, v2, v3].drop 1).take (Tryd.prog.cellsOf 3)) = ys[1]? := hfs 1 _ rfl
        rw [c3] at e1
        have e2 : DataW.trod enc Tryd.prog W 0 (fun _ => true) true n' 3 (([v0, v1, v2, v3].drop 2).take (Tryd.prog.cellsOf 3)) = ys[2]? := hfs 2 _ rfl
        rw [c3] at e2
        have e3 : DataW.trod enc Tryd.prog W 0 (fun _ => true) true n' 3 (([v0, v1, v2, v3].drop 3).take (Tryd.prog.cellsOf 3)) = ys[3]? := hfs 3 _ rfl
        rw [c3] at e3
        have g : ∀ (q : Nat) (v : Value), q < ys.length → DataW.trod enc Tryd.prog W 0 (fun _ => true) true n' 3 [v] = ys[q]? → ∃ z, v = .int .i64 z ∧ (Lit.int .i64 z).wf = true := by
          intro q v hq he
          rw [List.getElem?_eq_getElem hq] at he
          obtain ⟨z, hz1, _, hz2⟩ := DataW.trod_int Tryd.underlying3 he
          exact ⟨z, by simpa using hz1, hz2⟩
        have hys : ys.length = 4 := hyl
        obtain ⟨z0, rfl, w0⟩ := g 0 v0 (by omega) e0
        obtain ⟨z1, rfl, w1⟩ := g 1 v1 (by omega) e1
        obtain ⟨z2, rfl, w2⟩ := g 2 v2 (by omega) e2
        obtain ⟨z3, rfl, w3⟩ := g 3 v3 (by omega) e3
        refine ⟨⟨z0, z1, z2, z3⟩, fun _ => ⟨⟨w0, w1, w2, w3⟩, fun k u hu => ?_⟩⟩
        have hk : k < 4 := by have := (List.getElem?_eq_some_iff.1 hu).1; simpa using this
        rw [← Go.Deep.add_add, hat k hk]
        exact hu
    obtain ⟨Y, hY⟩ := Classical.axiomOfChoice each
    refine ⟨(List.range len).map Y, by simp, by simpa using hl, ?_, by simp; omega, ?_⟩
    · refine ⟨rfl, by simp; omega, fun h0 => ⟨x, rfl, fun k p hk => ?_⟩⟩
      obtain ⟨hk1, hk2⟩ := List.getElem?_eq_some_iff.1 hk
      have hk3 : k < len := by simpa using hk1
      obtain rfl : Y k = p := by simpa using hk2
      exact ⟨_, rfl, k42_mk W (Y k), fun i u hu => (hY k hk3).2 i u hu⟩
    · intro y hy
      obtain ⟨r, hr1, rfl⟩ := List.mem_map.1 hy
      exact (hY r (List.mem_range.1 hr1)).1
end Go.Proofs.YtffcdglhobdlhaaDoor.PA
