/- A range over a function whose iterator keeps its state in one cell of a box made ahead of the loop (strings.SplitSeq): what the caller owes. -/
import Derived.RangeFuncKeeps
import Derived.RangeFuncCalls
import Derived.RangeFuncLeaves
namespace Go.Proofs.YtcioahjfmmhiiaaDoor.PA
open Go Go.RowKit

/-- What the loop's book-keeping and the iterator may do: blocks that are no cells, new blocks, and the one box. -/
structure Mv (bx D : Nat) (A B : World) : Prop where
  os : B.os = A.os
  tape : B.tape = A.tape
  output : B.output = A.output
  size : A.heap.size ≤ B.heap.size
  cells : ∀ k o, A.heap[k]? = some o → o.isCells = true → k ≠ bx → B.heap[k]? = some o
  low : ∀ k, k < D → k ≠ bx → B.heap[k]? = A.heap[k]?
theorem Mv.refl (bx D : Nat) (A : World) : Mv bx D A A := ⟨rfl, rfl, rfl, Nat.le_refl _, fun _ _ h _ _ => h, fun _ _ _ => rfl⟩
/-- The iterator's own move: its box is written, blocks are made, a draw. -/
def ItMv (bx : Nat) (A B : World) : Prop := A.grownBy B (some bx) ∧ (∃ o, A.heap[bx]? = some o ∧ o.isCells = true) ∧ ∃ o, B.heap[bx]? = some o ∧ o.isCells = true
theorem lt_some {w : World} {k : Nat} {o : Obj} (h : w.heap[k]? = some o) : k < w.heap.size := (Array.getElem?_eq_some_iff.1 h).1
theorem ItMv.mv {bx D : Nat} {A B : World} (h : ItMv bx A B) (hD : D ≤ A.heap.size) : Mv bx D A B :=
  ⟨h.1.os, h.1.tape, h.1.output, h.1.size, fun k o ho _ hk => (h.1.block k (lt_some ho) (fun e => hk (Option.some.inj e))).trans ho, fun k hk hne => h.1.block k (by omega) (fun e => hne (Option.some.inj e))⟩
theorem Mv.put {bx D l : Nat} {A : World} {o : Obj} (o' : Obj) (hl : A.heap[l]? = some o) (ho : o.isCells = false) (hD : D ≤ l) : Mv bx D A (A.putObj l o') :=
  ⟨rfl, rfl, rfl, by simp, fun k q hq hc _ => by
    have hne : l ≠ k := fun e => by subst e; rw [hq] at hl; cases hl; rw [ho] at hc; cases hc
    exact (World.putObj_heap_other (Ne.symm hne)).trans hq, fun k hk _ => World.putObj_heap_other (by omega)⟩
theorem Mv.alloc {bx D : Nat} (A : World) (o : Obj) (hD : D ≤ A.heap.size) : Mv bx D A (A.alloc o) :=
  ⟨rfl, rfl, rfl, by simp, fun k _ hq _ _ => (Below.heap_alloc A o k (lt_some hq)).trans hq, fun k hk _ => Below.heap_alloc A o k (by omega)⟩

/-- The iterator's contract: xs come, in their order, to a loop whose rounds keep the blocks Kb (the box bx among them). -/
def BoxSeq {α : Type} (F : Fence) (n : Nat) (P : Program) (g : Nat) (lb : Array Value) (encs : α → Array Value) (bx : Nat) (Kb : Nat → Prop) (xs : List α) (w0 : World) : Prop :=
  ∀ (l : Nat) (J Jx : List α → World → Prop) (W : World), (∀ k, Kb k → W.heap[k]? = w0.heap[k]?) → (∀ s A B, J s A → ItMv bx A B → J s B) → (∀ s A B, Jx s A → ItMv bx A B → Jx s B) →
    (∀ pre x W1, J pre W1 → pre ++ [x] <+: xs → (∃ o, W1.heap[bx]? = some o ∧ o.isCells = true) → YieldAt F (n - 1) P l (encs x) W1 fun e W' =>
      (e = .returned (.bool true) ∧ J (pre ++ [x]) W' ∧ ∀ k, Kb k → W'.heap[k]? = W1.heap[k]?) ∨ (e = .returned (.bool false) ∧ Jx (pre ++ [x]) W')) →
    J [] W →
    CallsIn F n P g (#[.func (.yield l) #[] #[]] ++ lb) W fun e W' => (∃ v, e = .returned v) ∧ (J xs W' ∨ ∃ pre, pre <+: xs ∧ Jx pre W')

/-- How the body of a round may be left. -/
def boxPost {α : Type} (Kb : Nat → Prop) (I : List α → World → Prop) (Ix : Code → List α → World → Prop) (xs : List α) (W : World) : Exit → Act → World → Prop
  | .normal, _, W' => KeepsOthers W W' ∧ (∀ k, Kb k → W'.heap[k]? = W.heap[k]?) ∧ I xs W'
  | .ret, _, W' => KeepsOthers W W' ∧ Ix .ret xs W'
  | .exit id, _, W' => KeepsOthers W W' ∧ Ix (.exit id) xs W'
  | .goto t, _, W' => KeepsOthers W W' ∧ Ix (.goto t) xs W'
  | .panic _, _, _ => False
  | .outgrown, _, _ => False

variable {F : Fence} {n : Nat} {P : Program}
theorem wpIn_rangeFunc_box {α : Type} {g : Operand} {ps : Array Tmp} {assign body : Code} {Q : Exit → Act → World → Prop} {a : Act} {w : World}
    (hro : F.round = none) (h1 : 1 ≤ n) {gf : Nat} {lb : Array Value} (hg : a.eval g = .func (.func gf) #[] lb) (hFg : F.fn gf) (eg : ∀ args w, (callFunc gf args).run P w = .ok (.enter gf args) w)
    {encs : α → Array Value} {bx : Nat} {Kb : Nat → Prop} {xs : List α} {w0 : World} (hseq : BoxSeq F (n - 1) P gf lb encs bx Kb xs w0) (hbx : ∀ k, Kb k → w.heap[k]? = w0.heap[k]?) (hbl : ∀ k, Kb k → k < w.heap.size) (hps : ∀ x, (encs x).size = ps.size)
    (I : List α → World → Prop) (Ix : Code → List α → World → Prop) (hI : ∀ s A B, I s A → Mv bx w.heap.size A B → I s B) (hIx : ∀ c s A B, Ix c s A → Mv bx w.heap.size A B → Ix c s B) (h0 : I [] w) (a₁ : α → Act)
    (hassign : ∀ (l : Nat) (x : α) (W : World) (K : Act → World → Prop), K (a₁ x) W →
      assign.wpIn (F.inRound l) (n - 1 - 1) P (Exit.then K (fun _ _ _ => False)) { tmps := (ps.zip (encs x)).foldl (fun t (p, v) => t.setIfInBounds p v) a.tmps, defers := [] } W)
    (hbody : ∀ (l : Nat) (pre : List α) (x : α) (W : World), I pre W → pre ++ [x] <+: xs → w.heap.size ≤ W.heap.size → (∃ o, W.heap[bx]? = some o ∧ o.isCells = true) → body.wpIn (F.inRound l) (n - 1 - 1) P (boxPost Kb I Ix (pre ++ [x]) W) (a₁ x) W)
    (hdone : ∀ (W : World), w.heap.size ≤ W.heap.size → I xs W → W.heap[w.heap.size]? = some (.deferred (some [])) → Q .normal { a with defers := { target := .collected w.heap.size, args := #[] } :: a.defers } W)
    (hstop : ∀ (c : Code) (pre : List α) (W : World), pre <+: xs → Ix c pre W → W.heap[w.heap.size]? = some (.deferred (some [])) → c.wpIn F n P Q { a with defers := { target := .collected w.heap.size, args := #[] } :: a.defers } W) :
    (Code.rangeFunc g ps assign body).wpIn F n P Q a w := by
  refine wpIn_rangeFunc fun fn hfn => ?_
  rw [hro]
  -- the record, as the loop's states have it; the two blocks of book-keeping: D (the calls), D + 1 (the record)
  generalize hD : w.heap.size = D at *
  let R : LoopState → Option Code → Obj := fun st pe => .loop { state := st, pending := pe, fn, tmps := a.tmps, params := ps, assign, body, defers := D }
  let V := (w.alloc (.deferred (some []))).alloc (R .ready none)
  have vD : V.heap[D]? = some (.deferred (some [])) := (Below.heap_alloc _ _ _ (by simp [hD])).trans (by rw [← hD]; exact World.alloc_heap_new w _)
  have vL : V.heap[D + 1]? = some (R .ready none) := by
    have := World.alloc_heap_new (w.alloc (.deferred (some []))) (R .ready none)
    rwa [World.size_alloc, hD] at this
  have vbx : ∀ k, Kb k → V.heap[k]? = w.heap[k]? := fun k hk => by
    have := hbl k hk
    exact (Below.heap_alloc _ _ _ (by simp [hD]; omega)).trans (Below.heap_alloc _ _ _ (by omega))
  have vI : I [] V := hI _ _ _ (hI _ _ _ h0 (Mv.alloc w _ (by omega))) (Mv.alloc _ _ (by simp [hD]))
  -- what stands between two rounds; what stands when a round has left
  let J : List α → World → Prop := fun pre W => I pre W ∧ W.heap[D + 1]? = some (R .ready none) ∧ W.heap[D]? = some (.deferred (some []))
  let Jx : List α → World → Prop := fun pre W => ∃ c, Ix c pre W ∧ W.heap[D + 1]? = some (R .done (some c)) ∧ W.heap[D]? = some (.deferred (some []))
  have other : ∀ {A B : World} {k : Nat} {o : Obj}, ItMv bx A B → A.heap[k]? = some o → o.isCells = false → B.heap[k]? = some o := fun {A B k o} h ho hc => by
    obtain ⟨hg', ⟨q, hq, hqc⟩, _⟩ := h
    have hne : k ≠ bx := fun e => by subst e; rw [hq] at ho; cases ho; rw [hc] at hqc; cases hqc
    exact (hg'.block k (lt_some ho) (fun e => hne (Option.some.inj e))).trans ho
  refine ⟨D + 1, [{ target := .collected D, args := #[] }], V, { target := .fn (.func gf) lb, args := #[.func (.yield (D + 1)) #[] #[]] }, V, gf, #[.func (.yield (D + 1)) #[] #[]] ++ lb, V, ?_, ?_, ?_, ?_, fun _ => h1, ?_⟩
  · have := run_enterLoop_outer (P := P) (w := w) fn a.tmps ps assign body
    rw [hD] at this
    exact this
  · simp only [resolve, hg]
    simp [go_sem]
  · intro f' hf'; simp [Target.leads] at hf'; subst hf'; exact hFg
  · simp [invoke, go_sem, eg]
  · refine (hseq (D + 1) J Jx V (fun k hk => (vbx k hk).trans (hbx k hk))
      (fun s A B hs hm => ⟨hI _ _ _ hs.1 (hm.mv (Nat.le_of_lt (lt_some hs.2.2))), other hm hs.2.1 rfl, other hm hs.2.2 rfl⟩)
      (fun s A B hs hm => by
        obtain ⟨c, hc, hl, hk⟩ := hs
        exact ⟨c, hIx _ _ _ _ hc (hm.mv (Nat.le_of_lt (lt_some hk))), other hm hl rfl, other hm hk rfl⟩)
      ?_ ⟨vI, vL, vD⟩).mono ?_
    · rintro pre x W ⟨wi, wl, wd⟩ hpre ⟨ob, hob, hobc⟩
      have llt : D + 1 < W.heap.size := lt_some wl
      have hneb : D + 1 ≠ bx := fun e => by subst e; rw [hob] at wl; cases wl; cases hobc
      have hnek : ∀ k, Kb k → k ≠ D + 1 := fun k hk e => by have := hbl k hk; omega
      refine ⟨fn, _, assign, body, run_yield wl (hps x), roundIn_of_wpIn hfn (hassign _ x W _ ⟨_, run_beginRound wl rfl, ?_⟩)⟩
      -- the world in which the body begins
      have b1 : (W.putObj (D + 1) (R .busy none)).heap[D + 1]? = some (R .busy none) := World.putObj_heap_same llt
      have b2 : (W.putObj (D + 1) (R .busy none)).heap[D]? = some (.deferred (some [])) := (World.putObj_heap_other (by omega)).trans wd
      have b3 : (W.putObj (D + 1) (R .busy none)).heap[bx]? = W.heap[bx]? := World.putObj_heap_other (Ne.symm hneb)
      have b4 : I pre (W.putObj (D + 1) (R .busy none)) := hI _ _ _ wi (Mv.put _ wl rfl (by omega))
      refine wpIn_mono (hbody _ pre x _ b4 hpre (by simp; omega) ⟨ob, b3.trans hob, hobc⟩) ?_
      have ends : ∀ (jump : Option Code) (W3 : World), KeepsOthers (W.putObj (D + 1) (R .busy none)) W3 →
          (Instr.endRound (D + 1) jump).run P W3 = .ok (.bool jump.isNone) (W3.putObj (D + 1) (R (if jump.isNone then .ready else .done) jump)) ∧ W3.heap[D + 1]? = some (R .busy none) ∧
          (W3.putObj (D + 1) (R (if jump.isNone then .ready else .done) jump)).heap[D + 1]? = some (R (if jump.isNone then .ready else .done) jump) ∧
          (W3.putObj (D + 1) (R (if jump.isNone then .ready else .done) jump)).heap[D]? = some (.deferred (some [])) := fun jump W3 hk => by
        have e1 := hk.same _ _ b1 rfl
        exact ⟨run_endRound jump e1, e1, World.putObj_heap_same (lt_some e1), (World.putObj_heap_other (by omega)).trans (hk.same _ _ b2 rfl)⟩
      rintro e a3 W3 hp
      cases e with
      | normal =>
        obtain ⟨k1, k2, k3⟩ := hp
        obtain ⟨r1, r2, r3, r4⟩ := ends none W3 k1
        exact ⟨_, _, r1, .inl ⟨rfl, ⟨hI _ _ _ k3 (Mv.put _ r2 rfl (by omega)), r3, r4⟩, fun k hk => (World.putObj_heap_other (hnek k hk)).trans ((k2 k hk).trans (World.putObj_heap_other (hnek k hk)))⟩⟩
      | ret =>
        obtain ⟨r1, r2, r3, r4⟩ := ends (some .ret) W3 hp.1
        exact ⟨_, _, r1, .inr ⟨rfl, .ret, hIx _ _ _ _ hp.2 (Mv.put _ r2 rfl (by omega)), r3, r4⟩⟩
      | exit id =>
        obtain ⟨r1, r2, r3, r4⟩ := ends (some (.exit id)) W3 hp.1
        exact ⟨_, _, r1, .inr ⟨rfl, .exit id, hIx _ _ _ _ hp.2 (Mv.put _ r2 rfl (by omega)), r3, r4⟩⟩
      | goto t =>
        obtain ⟨r1, r2, r3, r4⟩ := ends (some (.goto t)) W3 hp.1
        exact ⟨_, _, r1, .inr ⟨rfl, .goto t, hIx _ _ _ _ hp.2 (Mv.put _ r2 rfl (by omega)), r3, r4⟩⟩
      | panic ch => exact hp.elim
      | outgrown => exact hp.elim
    · rintro e W2 ⟨⟨v, rfl⟩, h⟩
      rcases h with ⟨i1, i2, i3⟩ | ⟨pre, hp, c, i1, i2, i3⟩
      · exact ⟨none, _, run_endLoop i2 (by simp), hdone _ (by have := lt_some i2; simp; omega) (hI _ _ _ i1 (Mv.put _ i2 rfl (by omega))) ((World.putObj_heap_other (by omega)).trans i3)⟩
      · exact ⟨some c, _, run_endLoop i2 (by simp), hstop c pre _ hp (hIx _ _ _ _ i1 (Mv.put _ i2 rfl (by omega))) ((World.putObj_heap_other (by omega)).trans i3)⟩
end Go.Proofs.YtcioahjfmmhiiaaDoor.PA
