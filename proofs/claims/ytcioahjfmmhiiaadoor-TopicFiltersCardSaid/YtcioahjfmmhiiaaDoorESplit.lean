/- strings.SplitSeq at one slash: what comes, in its order. -/
import Derived.Test.YtcioahjfmmhiiaaDoorRangeBox
import Derived.Test.YtcioahjfmmhiiaaDoorPAx0
import Derived.Test.YtcioahjfmmhiiaaDoorShelf
import Derived.RangeFuncNested
import Derived.RangeFuncBound
import Derived.Shelf.Abstract
import Derived.WalkKit
import Derived.OwnWalkIn
import Derived.TacticsInMore
import Derived.LoopNIn
import Derived.LoopIn
namespace Go.Proofs.YtcioahjfmmhiiaaDoor.PA
open Go.RowKit Go.Shelf Go.Proofs.YtcioahjfmmhiiaaDoorW.PrintWords Go.Proofs.YtcioahjfmmhiiaaDoorW.PrintLast Go.Proofs.YtcioahjfmmhiiaaDoorW.PrintMore
attribute [local go_sem] Oper.semAt_some

/-- The parts between slashes. -/
def pieces : List UInt8 → List UInt8 → List (List UInt8)
  | acc, [] => [acc]
  | acc, c :: r => if c = 47 then acc :: pieces [] r else pieces (acc ++ [c]) r
def partsL (l : List UInt8) : List (List UInt8) := pieces [] l
theorem pieces_cut : ∀ (l acc : List UInt8) (i : Nat), l[i]? = some 47 → (∀ j, j < i → l[j]? ≠ some 47) → pieces acc l = (acc ++ l.take i) :: partsL (l.drop (i + 1))
  | [], _, i, h, _ => by simp at h
  | c :: r, acc, i, h, hn => by
    unfold pieces
    cases i with
    | zero =>
      have : c = 47 := by simpa using h
      rw [if_pos this]
      simp [partsL]
    | succ i =>
      have h0 := hn 0 (by omega)
      have : ¬ c = 47 := by simpa using h0
      rw [if_neg this, pieces_cut r (acc ++ [c]) i (by simpa using h) (fun j hj => by simpa using hn (j + 1) (by omega))]
      simp
theorem pieces_last : ∀ (l acc : List UInt8), (∀ j : Nat, l[j]? ≠ some 47) → pieces acc l = [acc ++ l]
  | [], acc, _ => by simp [pieces]
  | c :: r, acc, hn => by
    unfold pieces
    have : ¬ c = 47 := by simpa using hn 0
    rw [if_neg this, pieces_last r (acc ++ [c]) (fun j => by simpa using hn (j + 1))]
    simp
def partsB (s : ByteArray) : List ByteArray := (partsL s.data.toList).map fun l => ⟨l.toArray⟩

/-- How long the text in the box is: the loop's measure. -/
def boxLen (bx : Nat) (w : World) : Nat := match w.cell? ⟨bx, 0, none⟩ with
  | some (.string s) => s.size
  | _ => 0
set_option maxRecDepth 100000 in
set_option maxHeartbeats 4000000 in
theorem split_seq (b1 bx b3 : Nat) (s : ByteArray) (w0 : World) (h1 : w0.heap[b1]? = some (.cells #[.string ⟨#[47]⟩] 9)) (h2 : w0.heap[bx]? = some (.cells #[.string s] 9)) (h3 : w0.heap[b3]? = some (.cells #[.int .i64 0] 3)) (hn1 : b1 ≠ bx) (hn3 : b3 ≠ bx) (hs : s.size ≤ 9223372036854775807) :
    BoxSeq Fence.wide 3 Tryd.prog 54 #[.pointer (some ⟨b1, 0, none⟩), .pointer (some ⟨bx, 0, none⟩), .pointer (some ⟨b3, 0, none⟩)] (fun x : ByteArray => #[.string x]) bx (fun k => k = b1 ∨ k = bx ∨ k = b3) (partsB s) w0 := fun l J Jx W hW hJ hJx hY h0 => by
  have e1 := (hW b1 (.inl rfl)).trans h1
  have e2 := (hW bx (.inr (.inl rfl))).trans h2
  have e3 := (hW b3 (.inr (.inr rfl))).trans h3
  have c1 : W.cell? ⟨b1, 0, none⟩ = some (.string ⟨#[47]⟩) := by simp [World.cell?, e1]
  have c2 : W.cell? ⟨bx, 0, none⟩ = some (.string s) := by simp [World.cell?, e2]
  have c3 : W.cell? ⟨b3, 0, none⟩ = some (.int .i64 0) := by simp [World.cell?, e3]
  refine callsIn_of_wp Tryd.func54 rfl trivial ?_ rfl
  simp only [Tryd.ntmps54, List.size_toArray, List.length_cons, List.length_nil, Nat.reduceAdd, Nat.reduceSub, Array.replicate_succ, Array.replicate_zero, List.push_toArray, List.append_toArray, List.nil_append, List.cons_append]
  gi_wp2
  gi_loopw [7] (fun _ wr => ∃ (pre : List ByteArray) (cur : ByteArray), J pre wr ∧ wr.heap[b1]? = some (.cells #[.string ⟨#[47]⟩] 9) ∧ wr.heap[bx]? = some (.cells #[.string cur] 9) ∧ wr.heap[b3]? = some (.cells #[.int .i64 0] 3) ∧ Aside0 (pre ++ partsB cur = partsB s) ∧ cur.size ≤ 9223372036854775807)
    (fun _ wr => boxLen bx wr)
  case atStart => exact ⟨[], s, h0, e1, e2, e3, ⟨rfl⟩, hs⟩
  case round =>
    clear e1 e2 e3 c1 c2 c3 h0
    obtain ⟨pre, cur, hj, e1, e2, e3, HE, hcs⟩ := hrel
    have c1 : wr.cell? ⟨b1, 0, none⟩ = some (.string ⟨#[47]⟩) := by simp [World.cell?, e1]
    have c2 : wr.cell? ⟨bx, 0, none⟩ = some (.string cur) := by simp [World.cell?, e2]
    have c3 : wr.cell? ⟨b3, 0, none⟩ = some (.int .i64 0) := by simp [World.cell?, e3]
    have hge := Lib.indexByte_ge cur.data.toList 47
    gi_wp2
    refine ⟨trivial, ?_⟩
    refine (callsIn_wide.2 (Tryd.strings_Index_one cur 47 wr)).mono ?_
    rintro e w' ⟨rfl, rfl⟩
    by_cases hi : Lib.indexByte cur.data.toList 47 = -1
    · have hp : partsB cur = [cur] := by
        unfold partsB partsL
        rw [pieces_last _ _ (Lib.indexByte_none hi)]
        simp
      rw [hi]
      have he := HE.out
      rw [hp] at he
      obtain ⟨fn, tmps, assign, body, hy, hR⟩ := hY pre cur w' hj ⟨[], by rw [List.append_nil]; exact he⟩ ⟨_, e2, rfl⟩
      gi_wp2
      refine hR.mono ?_
      rintro e W3 (⟨rfl, hJ3, _⟩ | ⟨rfl, hx3⟩)
      · gi_wp2
        go_end0
        exact ⟨⟨_, rfl⟩, .inl (he ▸ hJ3)⟩
      · gi_wp2
        go_end0
        exact ⟨⟨_, rfl⟩, .inr ⟨pre ++ [cur], ⟨[], by rw [List.append_nil]; exact he⟩, hx3⟩⟩
    · obtain ⟨i, hie⟩ : ∃ i : Nat, Lib.indexByte cur.data.toList 47 = (i : Int) := ⟨(Lib.indexByte cur.data.toList 47).toNat, by omega⟩
      obtain ⟨hi1, hi2⟩ := Lib.indexByte_some hie
      have hlt : i < cur.size := by
        have := (List.getElem?_eq_some_iff.1 hi1).1
        simpa using this
      have hsz : cur.data.toList.length = cur.size := by simp
      have hp : partsB cur = cur.extract 0 i :: partsB (cur.extract (i + 1) cur.size) := by
        unfold partsB partsL
        rw [pieces_cut _ _ i hi1 hi2, List.map_cons, partsL]
        have q1 : (⟨([] ++ cur.data.toList.take i).toArray⟩ : ByteArray) = cur.extract 0 i := by
          apply ByteArray.ext
          apply Array.ext'
          rw [ByteArray.data_extract]
          simp
        have q2 : (cur.extract (i + 1) cur.size).data.toList = cur.data.toList.drop (i + 1) := by
          rw [ByteArray.data_extract]
          simp
          rw [← hsz, Array.length_toList, List.take_of_length_le (by simp)]
        rw [q1, q2]
      rw [hie]
      clear hge hi hie
      have hwi : wrap64 (i : Int) = (i : Int) := by unfold wrap64; omega
      have hwi1 : wrap64 ((i : Int) + 1) = (i : Int) + 1 := by unfold wrap64; omega
      have he := HE.out
      rw [hp] at he
      have HE2 := Aside0.mk he
      obtain ⟨x, hx⟩ : ∃ x, cur.extract 0 i = x := ⟨_, rfl⟩
      rw [hx] at he
      obtain ⟨fn, tmps, assign, body, hy, hR⟩ := hY pre x w' hj ⟨partsB (cur.extract (i + 1) cur.size), by rw [List.append_assoc]; exact he⟩ ⟨_, e2, rfl⟩
      have HX := Aside0.mk hx
      have HE3 := Aside0.mk he
      clear he hp hi1 hi2
      gi_wp2
      refine hR.mono ?_
      rintro e W3 (⟨rfl, hJ3, hk3⟩ | ⟨rfl, hx3⟩)
      · have g1 := (hk3 b1 (.inl rfl)).trans e1
        have g2 := (hk3 bx (.inr (.inl rfl))).trans e2
        have g3 := (hk3 b3 (.inr (.inr rfl))).trans e3
        have d1 : W3.cell? ⟨b1, 0, none⟩ = some (.string ⟨#[47]⟩) := by simp [World.cell?, g1]
        have d2 : W3.cell? ⟨bx, 0, none⟩ = some (.string cur) := by simp [World.cell?, g2]
        have f2 : W3.frozen? ⟨bx, 0, none⟩ = false := by simp [World.frozen?, g2]
        have old : boxLen bx w' = cur.size := by unfold boxLen; rw [c2]
        have G1 := Aside0.mk g1
        have G2 := Aside0.mk g2
        have G3 := Aside0.mk g3
        clear e1 e2 e3 c1 c2 c3 hk3 g1 g2 g3 hy hR
        gi_wp2
        have hb2 : (W3.setCell ⟨bx, 0, none⟩ (.string (cur.extract (i + 1) cur.size))).heap[bx]? = some (.cells #[.string (cur.extract (i + 1) cur.size)] 9) := by
          simp [World.setCell, Array.getElem?_modify, G2.out]
        have hes : (cur.extract (i + 1) cur.size).size = cur.size - (i + 1) := by simp
        refine ⟨⟨pre ++ [x], cur.extract (i + 1) cur.size, hJ _ _ _ hJ3 ⟨⟨rfl, rfl, rfl, by simp [World.setCell], fun k _ hk => Below.heap_setCell _ _ _ _ (fun e => hk (by rw [e]))⟩, ⟨_, G2.out, rfl⟩, ⟨_, hb2, rfl⟩⟩,
          (Below.heap_setCell _ _ _ _ hn1).trans G1.out, hb2, (Below.heap_setCell _ _ _ _ hn3).trans G3.out, ⟨by rw [List.append_assoc]; exact HE3.out⟩, by omega⟩, ?_⟩
        have hc2 : (W3.setCell ⟨bx, 0, none⟩ (.string (cur.extract (i + 1) cur.size))).cell? ⟨bx, 0, none⟩ = some (.string (cur.extract (i + 1) cur.size)) := by simp [World.cell?, hb2]
        rw [old]
        unfold boxLen
        rw [hc2]
        show (cur.extract (i + 1) cur.size).size < cur.size
        omega
      · gi_wp2
        refine bodyPost_ret (results_none rfl _ _ _) rfl ?_
        exact ⟨⟨_, rfl⟩, .inr ⟨pre ++ [x], ⟨partsB (cur.extract (i + 1) cur.size), by rw [List.append_assoc]; exact HE3.out⟩, hx3⟩⟩
#print axioms split_seq
end Go.Proofs.YtcioahjfmmhiiaaDoor.PA
