/- humpyardlaw07.Fit: of a raw text, a name that may be. -/
import Derived.Test.YtcioahjfmmhiiaaDoorEName
namespace Go.Proofs.YtcioahjfmmhiiaaDoor.PA
open Go.RowKit Go.Proofs.YtcioahjfmmhiiaaDoorW.PrintWords Go.Proofs.YtcioahjfmmhiiaaDoorW.PrintLast Go.Proofs.YtcioahjfmmhiiaaDoorW.PrintMore
attribute [local go_sem] max2_int min2_int max_two min_two max_three min_three max_four min_four

/-- The bytes that Fit takes. -/
def fitTab : List UInt8 := [97, 98, 99, 120, 121, 122, 65, 66, 67, 88, 89, 90, 48, 49, 56, 57, 95, 46, 58, 45]
def fitB (x : UInt8) : UInt8 := fitTab.getD (x.toNat % 20) 0
def fitL (l : List UInt8) : List UInt8 := 110 :: (l.take 15).map fitB
def humpyardlaw07_Fit.f (a0 : ByteArray) : Option (ByteArray) := some ⟨(fitL a0.data.toList).toArray⟩
/-- What the bytes are when i of them have been turned. -/
def fitAt (t : List UInt8) (i j : Nat) : Int := if 1 ≤ j ∧ j < i then ((fitB (t.getD j 0)).toNat : Int) else ((t.getD j 0).toNat : Int)
theorem bw_frozen (w : World) (e : TypeId) (s : ByteArray) (j : Nat) (hj : j < s.size) : (Lib.bytesWorld w e s).frozen? ⟨w.heap.size, j, none⟩ = false := by
  simp [World.frozen?, Lib.bytesWorld_at_new, Lib.bytesCells]
  omega

theorem tab_at : ∀ q : Fin 20, (({ data := #[97, 98, 99, 120, 121, 122, 65, 66, 67, 88, 89, 90, 48, 49, 56, 57, 95, 46, 58, 45] } : ByteArray)[q.1]'(q.2)).toNat = (fitTab.getD q.1 0).toNat := by decide
theorem fit_str (a0 s : ByteArray) (h : s.data.toList = 110 :: a0.data.toList.take 15) : strOfNums ((List.range s.size).map (fitAt s.data.toList s.size)) = ⟨(fitL a0.data.toList).toArray⟩ := by
  have hsz : s.size = s.data.toList.length := by simp
  have hb : ∀ x : UInt8, UInt8.ofNat ((x.toNat : Int)).toNat = x := fun x => by simp
  unfold strOfNums fitL
  congr 2
  rw [hsz, h]
  apply List.ext_getElem
  · simp
  · intro j h1 h2
    simp only [List.getElem_map, List.getElem_range]
    cases j with
    | zero => rfl
    | succ j =>
      have hj : j < (a0.data.toList.take 15).length := by simpa using h2
      unfold fitAt
      rw [if_pos ⟨by omega, by simp at hj ⊢; omega⟩, hb]
      simp only [List.getElem_cons_succ, List.getElem_map]
      congr 1
      rw [List.getD_eq_getElem?_getD]
      simp only [List.getElem?_cons_succ]
      rw [List.getElem?_eq_getElem hj]
      rfl
set_option maxHeartbeats 4000000 in
set_option maxRecDepth 100000 in
/-- The loop and what is behind it, of a text of at least one byte. -/
theorem fit_calls (a0 : ByteArray) (w : World) :
    Calls Tryd.prog 18 #[.string a0] w fun e w' => e = .returned (.string ⟨(fitL a0.data.toList).toArray⟩) ∧ Below w.heap.size w w' := by
  obtain ⟨s, hs⟩ : ∃ s : ByteArray, s = (⟨#[110]⟩ : ByteArray) ++ ⟨(a0.data.toList.take 15).toArray⟩ := ⟨_, rfl⟩
  have hs1 : s.data.toList = 110 :: a0.data.toList.take 15 := by rw [hs, ByteArray.data_append]; simp
  have hsz : s.size = 1 + min 15 a0.size := by
    have : s.size = s.data.toList.length := by simp
    rw [this, hs1]; simp; omega
  have hcut : ∀ n : Nat, n = min 15 a0.size → ({ data := #[110] } ++ a0.extract 0 n : ByteArray) = s := by
    intro n hn
    rw [hs]
    congr 1
    apply ByteArray.ext
    apply Array.ext'
    rw [ByteArray.data_extract]
    simp [hn]
  have kb := fun W => print_bytes (P := Tryd.prog) 9 51 5 Tryd.underlying9 Tryd.underlying51 Tryd.underlying5 s W
  have h1 : 1 ≤ s.size := by omega
  have h2 : s.size ≤ 16 := by omega
  have hc0 : ∀ j, j < s.size → (Lib.bytesWorld w 5 s).cell? ⟨w.heap.size, j, none⟩ = some (.int .u8 (fitAt s.data.toList 1 j)) := fun j hj => by
    rw [Lib.bytesWorld_cell w 5 s j hj]
    unfold fitAt
    rw [if_neg (by omega)]
  have hf0 := bw_frozen w 5 s
  have hb0 : Below w.heap.size w (Lib.bytesWorld w 5 s) := bytes_below (Below.refl _ w) (Nat.le_refl _) 5 s
  generalize hW0 : Lib.bytesWorld w 5 s = W0 at hc0 hf0 hb0
  have HS1 := Aside0.mk hs1
  have HSZ := Aside0.mk hsz
  clear hs1 hsz
  go_enter Tryd.func18, Tryd.ntmps18
  go_wp2_with fail
  · rename_i hmin
    rw [hcut 15 (by omega), kb, hW0]
    clear hcut hs
    go_wp2_with fail
    go_loopg [4] (s.size - 1) (fun k v4 wr => ∃ i : Nat, 1 ≤ i ∧ i ≤ s.size ∧ k = s.size - i ∧ v4 = .int .i64 i ∧ (∀ j, j < s.size → wr.cell? ⟨w.heap.size, j, none⟩ = some (.int .u8 (fitAt s.data.toList i j))) ∧ (∀ j, j < s.size → wr.frozen? ⟨w.heap.size, j, none⟩ = false) ∧ Aside0 (Below w.heap.size w wr))
    case atStart => exact ⟨1, by omega, h1, rfl, rfl, hc0, hf0, ⟨hb0⟩⟩
    case round =>
      clear hc0 hf0 hb0 hW0 kb
      obtain ⟨i, hi1, hi2, rfl, rfl, hc, hf, HB⟩ := hrel
      by_cases hlt : i < s.size
      · have hci := hc i hlt
        have hfi := hf i hlt
        have hx : 0 ≤ fitAt s.data.toList i i ∧ fitAt s.data.toList i i ≤ 255 := by
          unfold fitAt
          rw [if_neg (by omega)]
          have := (s.data.toList.getD i 0).toNat_lt
          omega
        have HC := Aside0.mk hc
        have HF := Aside0.mk hf
        clear hc hf
        generalize hxe : fitAt s.data.toList i i = x at hci hx
        have HX := Aside0.mk hxe
        have hx0 : 0 ≤ x % 20 := by omega
        have hx1 : x % 20 < 20 := by omega
        have hw8 : wrap64 x = x := by unfold wrap64; omega
        have hm : Int.tmod x 20 = x % 20 := Int.tmod_eq_emod_of_nonneg hx.1
        clear hxe
        go_wp2_with fail
        have hv : (({ data := #[97, 98, 99, 120, 121, 122, 65, 66, 67, 88, 89, 90, 48, 49, 56, 57, 95, 46, 58, 45] } : ByteArray)[(x % 20).toNat]'(by show (x % 20).toNat < 20; omega)).toNat = (fitB (s.data.toList.getD i 0)).toNat := by
          have hxn : x = ((s.data.toList.getD i 0).toNat : Int) := by rw [← HX.out]; unfold fitAt; rw [if_neg (by omega)]
          have hq : (x % 20).toNat = (s.data.toList.getD i 0).toNat % 20 := by omega
          unfold fitB
          rw [← hq]
          have hlt20 : (x % 20).toNat < 20 := by omega
          exact tab_at ⟨(x % 20).toNat, hlt20⟩
        rw [hv]
        go_roundg (s.size - (i + 1))
        case measure => omega
        case rel =>
          refine ⟨i + 1, by omega, by omega, rfl, by go_num, fun j hj => ?_, fun j hj => ?_, ⟨HB.out.setCell (p := ⟨w.heap.size, i, none⟩) (Nat.le_refl _) _⟩⟩
          · by_cases e : j = i
            · subst e
              rw [World.cell?_setCell_same' _ _ _ (by rw [HC.out j hj]; rfl)]
              unfold fitAt
              rw [if_pos (by omega)]
            · rw [World.cell?_setCell_other _ _ _ _ (by first | (simp; done) | (simp; omega)), HC.out j hj]
              unfold fitAt
              by_cases h1j : 1 ≤ j ∧ j < i
              · rw [if_pos h1j, if_pos (by omega)]
              · rw [if_neg h1j, if_neg (by omega)]
          · rw [World.frozen?_setCell]
            exact HF.out j hj
      · obtain rfl : i = s.size := by omega
        have HC := Aside0.mk hc
        clear hc hf
        have kc : ∀ c, (convert 51 9 (.slice (some ⟨w.heap.size, 0, none⟩) s.size c)).run Tryd.prog wr = .ok (.string (strOfNums ((List.range s.size).map (fitAt s.data.toList s.size)))) wr := fun c =>
          run_convert_bytes_arg wr 51 5 Tryd.underlying51 Tryd.underlying5 w.heap.size 0 s.size c _ (by simp) (fun j hj => by
            rw [Nat.zero_add, HC.out j hj]
            simp [List.getD_eq_getElem?_getD, hj]) 9 Tryd.underlying9
        rw [fit_str a0 s HS1.out] at kc
        go_wp2_with fail
        go_ret
        exact ⟨rfl, HB.out⟩
  · rename_i hmin
    have he : ({ data := #[110] } ++ a0 : ByteArray) = s := by
      rw [← hcut (min 15 a0.size) rfl]
      congr 1
      apply ByteArray.ext
      apply Array.ext'
      rw [ByteArray.data_extract]
      simp
      have : a0.data.size = a0.size := rfl
      rw [show min 15 a0.size = a0.data.size by omega, ← Array.length_toList, List.take_length]
    rw [he, kb, hW0]
    clear he hcut hs
    go_wp2_with fail
    go_loopg [4] (s.size - 1) (fun k v4 wr => ∃ i : Nat, 1 ≤ i ∧ i ≤ s.size ∧ k = s.size - i ∧ v4 = .int .i64 i ∧ (∀ j, j < s.size → wr.cell? ⟨w.heap.size, j, none⟩ = some (.int .u8 (fitAt s.data.toList i j))) ∧ (∀ j, j < s.size → wr.frozen? ⟨w.heap.size, j, none⟩ = false) ∧ Aside0 (Below w.heap.size w wr))
    case atStart => exact ⟨1, by omega, h1, rfl, rfl, hc0, hf0, ⟨hb0⟩⟩
    case round =>
      clear hc0 hf0 hb0 hW0 kb
      obtain ⟨i, hi1, hi2, rfl, rfl, hc, hf, HB⟩ := hrel
      by_cases hlt : i < s.size
      · have hci := hc i hlt
        have hfi := hf i hlt
        have hx : 0 ≤ fitAt s.data.toList i i ∧ fitAt s.data.toList i i ≤ 255 := by
          unfold fitAt
          rw [if_neg (by omega)]
          have := (s.data.toList.getD i 0).toNat_lt
          omega
        have HC := Aside0.mk hc
        have HF := Aside0.mk hf
        clear hc hf
        generalize hxe : fitAt s.data.toList i i = x at hci hx
        have HX := Aside0.mk hxe
        have hx0 : 0 ≤ x % 20 := by omega
        have hx1 : x % 20 < 20 := by omega
        have hw8 : wrap64 x = x := by unfold wrap64; omega
        have hm : Int.tmod x 20 = x % 20 := Int.tmod_eq_emod_of_nonneg hx.1
        clear hxe
        go_wp2_with fail
        have hv : (({ data := #[97, 98, 99, 120, 121, 122, 65, 66, 67, 88, 89, 90, 48, 49, 56, 57, 95, 46, 58, 45] } : ByteArray)[(x % 20).toNat]'(by show (x % 20).toNat < 20; omega)).toNat = (fitB (s.data.toList.getD i 0)).toNat := by
          have hxn : x = ((s.data.toList.getD i 0).toNat : Int) := by rw [← HX.out]; unfold fitAt; rw [if_neg (by omega)]
          have hq : (x % 20).toNat = (s.data.toList.getD i 0).toNat % 20 := by omega
          unfold fitB
          rw [← hq]
          have hlt20 : (x % 20).toNat < 20 := by omega
          exact tab_at ⟨(x % 20).toNat, hlt20⟩
        rw [hv]
        go_roundg (s.size - (i + 1))
        case measure => omega
        case rel =>
          refine ⟨i + 1, by omega, by omega, rfl, by go_num, fun j hj => ?_, fun j hj => ?_, ⟨HB.out.setCell (p := ⟨w.heap.size, i, none⟩) (Nat.le_refl _) _⟩⟩
          · by_cases e : j = i
            · subst e
              rw [World.cell?_setCell_same' _ _ _ (by rw [HC.out j hj]; rfl)]
              unfold fitAt
              rw [if_pos (by omega)]
            · rw [World.cell?_setCell_other _ _ _ _ (by first | (simp; done) | (simp; omega)), HC.out j hj]
              unfold fitAt
              by_cases h1j : 1 ≤ j ∧ j < i
              · rw [if_pos h1j, if_pos (by omega)]
              · rw [if_neg h1j, if_neg (by omega)]
          · rw [World.frozen?_setCell]
            exact HF.out j hj
      · obtain rfl : i = s.size := by omega
        have HC := Aside0.mk hc
        clear hc hf
        have kc : ∀ c, (convert 51 9 (.slice (some ⟨w.heap.size, 0, none⟩) s.size c)).run Tryd.prog wr = .ok (.string (strOfNums ((List.range s.size).map (fitAt s.data.toList s.size)))) wr := fun c =>
          run_convert_bytes_arg wr 51 5 Tryd.underlying51 Tryd.underlying5 w.heap.size 0 s.size c _ (by simp) (fun j hj => by
            rw [Nat.zero_add, HC.out j hj]
            simp [List.getD_eq_getElem?_getD, hj]) 9 Tryd.underlying9
        rw [fit_str a0 s HS1.out] at kc
        go_wp2_with fail
        go_ret
        exact ⟨rfl, HB.out⟩
theorem humpyardlaw07_Fit.calls (a0 : ByteArray) (r : ByteArray) (w : World) (h : humpyardlaw07_Fit.f a0 = some r) :
    Calls Tryd.prog 18 #[.string a0] w fun e w' => e = .returned (.string r) ∧ Below w.heap.size w w' := by
  obtain rfl := Option.some.inj h
  exact fit_calls a0 w
#print axioms humpyardlaw07_Fit.calls
end Go.Proofs.YtcioahjfmmhiiaaDoor.PA
