/- The plain law of TraceReports. -/
import Derived.Test.YtffcdglhobdlhaaDoorPAf5
import Derived.Test.YtffcdglhobdlhaaDoorPureA
namespace Go.Proofs.YtffcdglhobdlhaaDoor.Pure
open Go.Lib Go.RowKit Go.Proofs.YtffcdglhobdlhaaDoor.PA Go.Proofs.YtffcdglhobdlhaaDoorW.PrintWords Go.Proofs.YtffcdglhobdlhaaDoorW.PrintLast Go.Proofs.YtffcdglhobdlhaaDoorW.PrintMore

theorem jobs_len : ∀ (l : List S42) (i : Nat) (busy : List Bool), (jobsOf l i busy).length = l.length
  | [], _, _ => rfl
  | j :: r, i, busy => by simp [jobsOf, jobs_len r]
theorem jobStep_head (i : Nat) (j : S42) (busy : List Bool) : (jobStep i j busy).1.f0 = (i : Int) + 1 ∧ (jobStep i j busy).1.f1 = pk j.f1 5 := by
  unfold jobStep
  dsimp only
  by_cases h : 1 + pk j.f2 4 = 2
  · rw [if_pos h]
    by_cases h2 : busy.getD (if 1 + pk j.f2 4 = 2 ∨ 1 + pk j.f2 4 = 3 then pk j.f3 3 else -1).toNat false = true
    · rw [if_pos h2]; exact ⟨rfl, rfl⟩
    · rw [if_neg h2]; exact ⟨rfl, rfl⟩
  · rw [if_neg h]; exact ⟨rfl, rfl⟩
theorem jobs_small : ∀ (l : List S42) (i : Nat) (busy : List Bool), i + l.length ≤ 98 → (∀ j ∈ l, jobIn j) → ∀ y ∈ jobsOf l i busy, small y
  | [], _, _, _, _, y, hy => by simp [jobsOf] at hy
  | j :: r, i, busy, hl, hin, y, hy => by
    simp only [List.length_cons] at hl
    rcases List.mem_cons.1 hy with rfl | hy
    · obtain ⟨e0, e1⟩ := jobStep_head i j busy
      have := pk_range (n := 5) (hin j (by simp)).1 (by decide)
      unfold small
      rw [e0, e1]
      omega
    · exact jobs_small r (i + 1) _ (by omega) (fun x hx => hin x (by simp [hx])) y hy

theorem mem_join (sep : List UInt8) : ∀ (ls : List (List UInt8)) (b : UInt8), b ∈ Lib.join ls sep → b ∈ sep ∨ ∃ l ∈ ls, b ∈ l := by
  intro ls b h
  unfold Lib.join at h
  rw [List.intercalate] at h
  obtain ⟨l, hl, hb⟩ := List.mem_flatten.1 h
  have : ∀ (ls : List (List UInt8)) (l : List UInt8), l ∈ ls.intersperse sep → l = sep ∨ l ∈ ls := by
    intro ls
    induction ls with
    | nil => intro l h; simp at h
    | cons x ls ih =>
      intro l h
      cases ls with
      | nil => right; simpa using h
      | cons y ls =>
        rw [List.intersperse_cons_cons] at h
        rcases List.mem_cons.1 h with rfl | h
        · right; simp
        rcases List.mem_cons.1 h with rfl | h
        · left; rfl
        rcases ih l h with e | e
        · left; exact e
        · right; exact List.mem_cons_of_mem _ e
  rcases this ls l hl with rfl | h2
  · left; exact hb
  · right; exact ⟨l, h2, hb⟩

/-- The three vehicles. -/
def fleet3 : List S34 := [⟨⟨#[120]⟩, 0⟩, ⟨⟨#[121]⟩, 0⟩, ⟨⟨#[122]⟩, 0⟩]
theorem digits_no : ∀ n : Fin 100, (decDigits n.1).contains 10 = false := by decide +kernel
theorem part_no (j : S42) (hj : small j) : ∀ p ∈ partsOf fleet3 j, 10 ∉ p.data.toList := by
  obtain ⟨h1, h2, h3, h4⟩ := hj
  intro p hp
  unfold partsOf at hp
  rcases List.mem_append.1 hp with hp | hp
  · simp only [List.mem_cons, List.not_mem_nil, or_false] at hp
    rcases hp with rfl | rfl | rfl
    · have := digits_no ⟨j.f0.toNat, by omega⟩
      simpa using this
    · have := digits_no ⟨j.f1.toNat, by omega⟩
      simpa using this
    · unfold wordOf
      split
      · decide
      · split
        · decide
        · split
          · decide
          · split
            · decide
            · decide
  · split at hp
    · rename_i hc
      have hl : j.f3 < 3 := hc.2
      have hp1 := List.mem_singleton.1 hp
      have h012 : j.f3 = 0 ∨ j.f3 = 1 ∨ j.f3 = 2 := by omega
      rcases h012 with e | e | e <;> (rw [e] at hp1; subst hp1; decide)
    · simp at hp
theorem line_count (j : S42) (hj : small j) : (lineOf fleet3 j).count 10 = 1 := by
  unfold lineOf
  rw [List.count_append]
  have h0 : (Lib.join ((partsOf fleet3 j).map (·.data.toList)) [32]).count 10 = 0 := by
    rw [List.count_eq_zero]
    intro h
    rcases mem_join _ _ _ h with h | ⟨l, hl, hb⟩
    · simp at h
    · obtain ⟨p, hp, rfl⟩ := List.mem_map.1 hl
      exact part_no j hj p hp hb
  rw [h0]
  rfl
theorem lines_count : ∀ l : List S42, (∀ j ∈ l, small j) → (l.flatMap (lineOf fleet3)).count 10 = l.length
  | [], _ => rfl
  | j :: r, h => by
    rw [List.flatMap_cons, List.count_append, line_count j (h j (by simp)), lines_count r (fun x hx => h x (by simp [hx])), List.length_cons]
    omega

theorem fits3 (l : List S42) (hl : l.length ≤ 24) (h : ∀ j ∈ l, small j) : reportFits l fleet3 := ⟨by omega, by decide, h, by decide⟩
theorem report_f (l : List S42) (hl : l.length ≤ 24) (h : ∀ j ∈ l, small j) : trace_Report.f l fleet3 = some ⟨(l.flatMap (lineOf fleet3)).toArray⟩ := by
  unfold trace_Report.f
  rw [if_pos (fits3 l hl h)]

theorem bt_get (s : List UInt8) (i : Nat) (h : i < s.length) : bt ⟨s.toArray⟩ (i : Int) = ((s[i]).toNat : Int) := by
  have hs : (⟨s.toArray⟩ : ByteArray).size = s.length := by simp [ByteArray.size]
  unfold bt
  rw [dif_pos (by rw [hs]; simpa using h)]
  rfl

theorem loop (a b : List S42) (ha : a.length ≤ 12) (hb : b.length ≤ 12) (sa : ∀ j ∈ a, small j) (sb : ∀ j ∈ b, small j) (d : Nat) :
    ∀ (i k : Nat), i ≤ (a.flatMap (lineOf fleet3)).length → (a.flatMap (lineOf fleet3)).length - i = d → d < k →
      humpyardlaw21_TraceReports.l0 k true fleet3 a b ⟨(a.flatMap (lineOf fleet3)).toArray⟩ ((((a.flatMap (lineOf fleet3)).take i).count 10 : Nat) : Int) (i : Int) = some true := by
  have hA := lines_len fleet3 (by decide) a sa
  have hB := lines_len fleet3 (by decide) b sb
  have hcount := lines_count a sa
  have hrep := report_f (a ++ b) (by rw [List.length_append]; omega) (fun j hj => (List.mem_append.1 hj).elim (sa j) (sb j))
  rw [List.flatMap_append] at hrep
  generalize hs : a.flatMap (lineOf fleet3) = s at hA hcount hrep
  have hsz : ∀ t : List UInt8, (⟨t.toArray⟩ : ByteArray).size = t.length := fun t => by simp [ByteArray.size]
  have hlen : s.length ≤ 20000 := by omega
  induction d with
  | zero =>
    intro i k hi hd hk
    obtain ⟨k, rfl⟩ : ∃ m, k = m + 1 := ⟨k - 1, by omega⟩
    obtain rfl : i = s.length := by omega
    simp only [humpyardlaw21_TraceReports.l0]
    rw [hsz, if_neg (by omega), if_pos trivial, List.take_length, hcount, if_pos rfl, if_pos (by simp; omega)]
    simp only [Option.bind_some, List.nil_append]
    rw [if_pos (by omega), hrep, report_f b (by omega) sb]
    simp only [Option.bind_some]
    rw [if_pos (by rw [hsz]; omega)]
    simp [ByteArray.toList_eq, ByteArray.data_append]
  | succ d ih =>
    intro i k hi hd hk
    obtain ⟨k, rfl⟩ : ∃ m, k = m + 1 := ⟨k - 1, by omega⟩
    have hlt : i < s.length := by omega
    have hc : (s.take (i + 1)).count 10 = (s.take i).count 10 + (if s[i] = 10 then 1 else 0) := by
      rw [List.take_succ_eq_append_getElem hlt, List.count_append, List.count_singleton]
      simp
    have hle : (s.take i).count 10 ≤ i := Nat.le_trans List.count_le_length (by rw [List.length_take]; omega)
    have hw : wrap64 ((((s.take i).count 10 : Nat) : Int) + 1) = (((s.take i).count 10 + 1 : Nat) : Int) := wrap_nat (n := s.length) (by omega) (by omega)
    simp only [humpyardlaw21_TraceReports.l0]
    rw [hsz, if_pos (by omega), if_pos (by omega), bt_get s i hlt, wrap_nat hlt (by omega)]
    have := ih (i + 1) k (by omega) (by omega) (by omega)
    rw [hc] at this
    by_cases h10 : s[i] = 10
    · rw [if_pos (by rw [h10]; rfl), hw]
      rw [if_pos h10] at this
      exact this
    · rw [if_neg (fun e => h10 (UInt8.toNat_inj.1 (by have : (s[i].toNat : Int) = 10 := e; show s[i].toNat = 10; omega)))]
      rw [if_neg h10] at this
      exact this

theorem TraceReports (l0 l1 : List S42) (h0 : l0.length ≤ 9223372036854775807) (h1 : l1.length ≤ 9223372036854775807) (w0 : ∀ j ∈ l0, jobIn j) (w1 : ∀ j ∈ l1, jobIn j) : ∃ k, humpyardlaw21_TraceReports.f k l0 l1 = some true := by
  have j0 : ∀ j ∈ l0.take 12, jobIn j := fun j hj => w0 j (List.mem_of_mem_take hj)
  have j1 : ∀ j ∈ l1.take 12, jobIn j := fun j hj => w1 j (List.mem_of_mem_take hj)
  have e0 : humpyardlaw21_Jobs.f l0 = some (jobsOf (l0.take 12) 0 [false, false, false]) := by unfold humpyardlaw21_Jobs.f; rw [if_pos ⟨j0, h0⟩]
  have e1 : humpyardlaw21_Jobs.f l1 = some (jobsOf (l1.take 12) 0 [false, false, false]) := by unfold humpyardlaw21_Jobs.f; rw [if_pos ⟨j1, h1⟩]
  have s0 := jobs_small (l0.take 12) 0 [false, false, false] (by rw [List.length_take]; omega) j0
  have s1 := jobs_small (l1.take 12) 0 [false, false, false] (by rw [List.length_take]; omega) j1
  have n0 : (jobsOf (l0.take 12) 0 [false, false, false]).length ≤ 12 := by rw [jobs_len, List.length_take]; omega
  have n1 : (jobsOf (l1.take 12) 0 [false, false, false]).length ≤ 12 := by rw [jobs_len, List.length_take]; omega
  generalize jobsOf (l0.take 12) 0 [false, false, false] = a at e0 s0 n0
  generalize jobsOf (l1.take 12) 0 [false, false, false] = b at e1 s1 n1
  refine ⟨(a.flatMap (lineOf fleet3)).length + 5, ?_⟩
  unfold humpyardlaw21_TraceReports.f
  rw [awake_true (by omega), e0, e1]
  simp only [Option.bind_some]
  rw [show ([(⟨(⟨#[120]⟩ : ByteArray), 0⟩ : S34), (⟨(⟨#[121]⟩ : ByteArray), 0⟩ : S34), (⟨(⟨#[122]⟩ : ByteArray), 0⟩ : S34)] : List S34) = fleet3 from rfl, report_f a (by omega) s0]
  simp only [Option.bind_some]
  exact loop a b n0 n1 s0 s1 _ 0 _ (by omega) rfl (by omega)
end Go.Proofs.YtffcdglhobdlhaaDoor.Pure
