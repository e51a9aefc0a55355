/- Words, cells and keys as plain numbers, and what the walk's spellings of them come to. -/
import Derived.Test.YtdfeinfaljidgaaDoorCore
import Derived.Laws.BitsAllLaws
import Derived.IntWalk
namespace Go.Proofs.YtdfeinfaljidgaaDoor
open Go Go.RowKit

def link (r : Nat) (m : Bool) : Nat := 2 * r + (if m then 1 else 0)
def ref (w : Nat) : Nat := w / 2 % 1048576
def marked (w : Nat) : Bool := w % 2 == 1
def flag (stamp bits : Nat) : Nat := stamp * 4 % W64 + bits
def stamp (w : Nat) : Nat := w / 4
def hasBit (w bit : Nat) : Bool := if bit = 1 then w % 2 == 1 else w / 2 % 2 == 1
def setBit (w bit : Nat) : Nat := if hasBit w bit then w else w + bit
def top (r tag : Nat) : Nat := r + tag * 1048576 % W64
def first (w : Nat) : Nat := w % 1048576
def tag (w : Nat) : Nat := w / 1048576
def field (t r f : Nat) : Nat := 8 * r + t + f
def next (t r : Nat) : Nat := if r = 0 then 0 else field t r 0
def vkey (u : Nat) : Nat := u * 2147483648
def rightKey (k : Nat) : Bool := decide (k / 2147483648 < 1073741824) && decide (k % 2147483648 ≤ 1073741824)

theorem ref_lt (w : Nat) : ref w < 1048576 := Nat.mod_lt _ (by decide)
theorem first_lt (w : Nat) : first w < 1048576 := Nat.mod_lt _ (by decide)

theorem link_lt {r : Nat} {m : Bool} (h : r ≤ 1048576) : link r m < W64 := by unfold link W64; split <;> omega

theorem bits_ref {n : Nat} (h : n < W64) : wrap64 (bits .and .u64 ((n : Int) / 2) 1048575) = ((ref n : Nat) : Int) := by
  have e : ((n : Int) / 2) = ((n / 2 : Nat) : Int) := by omega
  rw [e, show (1048575 : Int) = ((1048575 : Nat) : Int) from rfl, u64_and_nat _ _ (by unfold W64 at h; omega) (by decide), show (1048575 : Nat) = 2 ^ 20 - 1 from rfl, Nat.and_two_pow_sub_one_eq_mod]
  have := ref_lt n
  unfold ref at this ⊢
  rw [show 2 ^ 20 = 1048576 from rfl]
  simp only [wrap64]; omega
theorem bits_first {n : Nat} (h : n < W64) : wrap64 (bits .and .u64 (n : Int) 1048575) = ((first n : Nat) : Int) := by
  rw [show (1048575 : Int) = ((1048575 : Nat) : Int) from rfl, u64_and_nat _ _ (by unfold W64 at h; omega) (by decide), show (1048575 : Nat) = 2 ^ 20 - 1 from rfl, Nat.and_two_pow_sub_one_eq_mod]
  have := first_lt n
  unfold first at this ⊢
  rw [show 2 ^ 20 = 1048576 from rfl]
  simp only [wrap64]; omega
theorem bits_mark {n : Nat} (h : n < W64) : (bits .and .u64 (n : Int) 1 == 1) = marked n := by
  rw [show (1 : Int) = ((1 : Nat) : Int) from rfl, u64_and_nat _ _ (by unfold W64 at h; omega) (by decide), nat_mask1]
  unfold marked
  rw [Bool.eq_iff_iff]; simp; omega
theorem bits_low31 {n : Nat} (h : n < W64) : bits .and .u64 (n : Int) 2147483647 = ((n % 2147483648 : Nat) : Int) := by
  rw [show (2147483647 : Int) = ((2147483647 : Nat) : Int) from rfl, u64_and_nat _ _ (by unfold W64 at h; omega) (by decide), show (2147483647 : Nat) = 2 ^ 31 - 1 from rfl, Nat.and_two_pow_sub_one_eq_mod]
theorem bits_or1 {n : Nat} (h : n < W64) (hm : n % 2 = 0) : bits .or .u64 (n : Int) 1 = ((n + 1 : Nat) : Int) := by
  rw [show (1 : Int) = ((1 : Nat) : Int) from rfl, u64_or_nat _ _ (by unfold W64 at h; omega) (by decide), nat_join 1 n 1 (by simpa using hm) (by decide)]
theorem bits_has1 {n : Nat} (h : n < W64) : (bits .and .u64 (n : Int) (bits .and .u64 1 3) == bits .and .u64 1 3) = hasBit n 1 := by
  rw [show bits .and .u64 1 3 = ((1 : Nat) : Int) from by decide, u64_and_nat _ _ (by unfold W64 at h; omega) (by decide), nat_mask1]
  unfold hasBit
  rw [Bool.eq_iff_iff]; simp; omega
theorem bits_has2 {n : Nat} (h : n < W64) : (bits .and .u64 (n : Int) (bits .and .u64 2 3) == bits .and .u64 2 3) = hasBit n 2 := by
  rw [show bits .and .u64 2 3 = ((2 : Nat) : Int) from by decide, u64_and_nat _ _ (by unfold W64 at h; omega) (by decide), show n &&& 2 = n / 2 ^ 1 % 2 * 2 ^ 1 from nat_bit 1 n]
  unfold hasBit
  rw [Bool.eq_iff_iff]; simp; omega
theorem bits_split {n : Nat} (h : n < W64) : wrap64 (wrap64 (bits .and .u64 (n : Int) 2147483647) - 1) = ((n % 2147483648 : Nat) - 1 : Int) := by
  rw [bits_low31 h]
  have : n % 2147483648 < 2147483648 := Nat.mod_lt _ (by decide)
  simp only [wrap64]; omega
theorem bits_shr31 {n : Nat} (h : n < W64) : wrap64 ((n : Int) / 2147483648) = ((n / 2147483648 : Nat) : Int) := by
  unfold W64 at h
  simp only [wrap64]; omega
theorem link_true (r : Nat) : ((r : Int) * 2) = ((2 * r : Nat) : Int) := by omega
end Go.Proofs.YtdfeinfaljidgaaDoor
