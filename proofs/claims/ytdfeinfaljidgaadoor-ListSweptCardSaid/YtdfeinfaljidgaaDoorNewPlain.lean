/- A new memory, a new disk, as plain data. Plain Lean. -/
import Derived.Test.YtdfeinfaljidgaaDoorRunW
namespace Go.Proofs.YtdfeinfaljidgaaDoor
open Go Go.RowKit

/-- The word at j of a new memory, of which the records below i have been linked. -/
def newAt (t c i j : Nat) : Nat := if j = 1 ∧ 0 < c then 1 else if 8 + t ≤ j ∧ (j - t) % 8 = 7 ∧ (j - t) / 8 < i then (j - t) / 8 + 1 else 0
def newUpto (t c i : Nat) : List Nat := (List.range (8 + t + 8 * c)).map (newAt t c i)
def newWords (t c : Nat) : List Nat := newUpto t c c
def newM (t c : Nat) : MemM := { T := t, C := c, word := newWords t c }
def newD (t : Nat) : DiskM := { root := 0, row0 := List.replicate t {}, row1 := List.replicate t {} }
def newW (t c : Nat) : WorldM := { mem := newM t c, disk := newD t }

theorem newUpto_length (t c i : Nat) : (newUpto t c i).length = 8 + t + 8 * c := by simp [newUpto]
theorem newUpto_at {t c i j : Nat} (h : j < 8 + t + 8 * c) : (newUpto t c i)[j]? = some (newAt t c i j) := by
  simp [newUpto, h]
theorem newUpto_zero (t : Nat) : List.replicate (8 + t + 8 * 0) 0 = newUpto t 0 1 := by
  apply List.ext_getElem?
  intro j
  by_cases h : j < 8 + t + 8 * 0
  · rw [newUpto_at h, List.getElem?_replicate, if_pos h]
    unfold newAt
    rw [if_neg (by omega), if_neg (by omega)]
  · rw [List.getElem?_eq_none (by simp; omega), List.getElem?_eq_none (by rw [newUpto_length]; omega)]
theorem newUpto_one {t c : Nat} (hc : 0 < c) : (List.replicate (8 + t + 8 * c) 0).set 1 1 = newUpto t c 1 := by
  apply List.ext_getElem?
  intro j
  by_cases h : j < 8 + t + 8 * c
  · rw [newUpto_at h, List.getElem?_set]
    unfold newAt
    by_cases h1 : 1 = j
    · subst h1; simp [hc]; omega
    · rw [if_neg h1, List.getElem?_replicate, if_pos h, if_neg (by omega), if_neg (by omega)]
  · rw [List.getElem?_eq_none (by simp; omega), List.getElem?_eq_none (by rw [newUpto_length]; omega)]
theorem newUpto_step {t c i : Nat} (hi : 1 ≤ i) (hc : i < c) : (newUpto t c i).set (field t i 7) (i + 1) = newUpto t c (i + 1) := by
  apply List.ext_getElem?
  intro j
  by_cases h : j < 8 + t + 8 * c
  · rw [newUpto_at h, List.getElem?_set]
    have hf : field t i 7 < 8 + t + 8 * c := by unfold field; omega
    by_cases h1 : field t i 7 = j
    · subst h1
      rw [if_pos rfl, if_pos (by rw [newUpto_length]; exact hf)]
      unfold newAt field
      rw [if_neg (by omega), if_pos (by omega)]
      congr 1; omega
    · rw [if_neg h1, newUpto_at h]
      unfold field at h1
      unfold newAt
      congr 1
      by_cases h2 : j = 1 ∧ 0 < c
      · rw [if_pos h2, if_pos h2]
      · rw [if_neg h2, if_neg h2]
        by_cases h3 : 8 + t ≤ j ∧ (j - t) % 8 = 7 ∧ (j - t) / 8 < i
        · rw [if_pos h3, if_pos (by omega)]
        · rw [if_neg h3, if_neg (by omega)]
  · rw [List.getElem?_eq_none (by simp [newUpto_length]; omega), List.getElem?_eq_none (by rw [newUpto_length]; omega)]
theorem newUpto_end {t c : Nat} : newUpto t c (max c 1) = newWords t c := by
  unfold newWords
  by_cases h : 1 ≤ c
  · rw [Nat.max_eq_left h]
  · obtain rfl : c = 0 := by omega
    apply List.map_congr_left
    intro j hj
    rw [List.mem_range] at hj
    unfold newAt
    rw [if_neg (by omega), if_neg (by omega), if_neg (by omega), if_neg (by omega)]
theorem newAt_lt {t c i j : Nat} (h : j < 8 + t + 8 * c) (hc : c ≤ 65536) : newAt t c i j < W64 := by
  unfold newAt W64
  repeat' split
  all_goals omega
theorem newWords_lt {t c : Nat} (hc : c ≤ 65536) : ∀ x, x ∈ newWords t c → x < W64 := by
  intro x hx
  obtain ⟨j, hj, rfl⟩ := List.mem_map.1 hx
  exact newAt_lt (List.mem_range.1 hj) hc
theorem newW_len (t c : Nat) : (newW t c).len = 8 + t + 8 * c := newUpto_length t c c
theorem newW_get {t c j : Nat} (h : j < 8 + t + 8 * c) : (newW t c).get j = newAt t c c j := by
  show (newUpto t c c).getD j 0 = _
  rw [List.getD_eq_getElem?_getD, newUpto_at h]
  rfl
end Go.Proofs.YtdfeinfaljidgaaDoor
