/- The contracts of the document's small functions: words, cells. -/
import Derived.Test.YtdfeinfaljidgaaDoorPure
import Derived.Test.YtdfeinfaljidgaaDoorWorlds
namespace Go.Proofs.YtdfeinfaljidgaaDoor
open Go Go.RowKit

theorem u64_half {n : Nat} (h : n < W64) (m : Nat) : (IntKind.u64.wrap ((n : Int) / 2)).tmod (m : Int) = ((n / 2 % m : Nat) : Int) := by
  unfold W64 at h
  rw [IntWalk.u64_in _ ⟨by omega, by omega⟩, show ((n : Int) / 2) = ((n / 2 : Nat) : Int) from by omega, ← Int.ofNat_tmod]

theorem RField_any {t r f : Nat} {w : World} (h1 : t ≤ 64) (h2 : 1 ≤ r) (h3 : r ≤ 1048576) (h4 : f ≤ 8) : Calls Tryd.prog 10 #[.int .i64 t, .int .i64 r, .int .i64 f] w fun e w' => e = .returned (.int .i64 (field t r f : Nat)) ∧ w = w' := by
  go_enter Tryd.func10, Tryd.ntmps10
  go_wp2
  go_ret
  exact ⟨ret_i64 (by unfold field; simp; omega), rfl⟩

theorem RNext_any {t r : Nat} {w : World} (h1 : t ≤ 64) (h3 : r ≤ 1048576) : Calls Tryd.prog 13 #[.int .i64 t, .int .i64 r] w fun e w' => e = .returned (.int .i64 (next t r : Nat)) ∧ w = w' := by
  by_cases h : r = 0
  · subst h
    go_enter Tryd.func13, Tryd.ntmps13
    go_wp2
    go_ret
    exact ⟨rfl, rfl⟩
  · have h' : (((r : Nat) : Int) == 0) = false := by simp; omega
    have H := hid h; clear h
    go_enter Tryd.func13, Tryd.ntmps13
    go_wp2_with (go_at_call 10; refine (RField_any (f := 0) h1 (by have := H.out; omega) h3 (by omega)).mono ?_; rintro e w' ⟨rfl, rfl⟩)
    go_ret
    exact ⟨ret_i64 (by unfold next; rw [if_neg H.out]), rfl⟩

theorem RRef_any {n : Nat} {w : World} (h : n < W64) : Calls Tryd.prog 27 #[.int .u64 n] w fun e w' => e = .returned (.int .i64 (ref n : Nat)) ∧ w = w' := by
  have H := hid h; clear h
  go_enter Tryd.func27, Tryd.ntmps27
  go_wp2
  go_ret
  refine ⟨ret_i64 ?_, rfl⟩
  have e := u64_half H.out 1048576
  rw [show ((1048576 : Nat) : Int) = 1048576 from rfl] at e
  rw [e]
  unfold ref
  simp only [wrap64]; omega

theorem RHas_any {n : Nat} {w : World} (h : n < W64) : Calls Tryd.prog 14 #[.int .u64 n, .int .i64 2] w fun e w' => e = .returned (.bool (hasBit n 2)) ∧ w = w' := by
  have H := hid h; clear h
  go_enter Tryd.func14, Tryd.ntmps14
  go_wp2
  go_ret
  refine ⟨ret_bool ?_, rfl⟩
  have e := u64_half H.out 2
  rw [show ((2 : Nat) : Int) = 2 from rfl] at e
  rw [e]
  unfold hasBit
  rw [if_neg (by decide), Bool.eq_iff_iff]
  simp only [beq_iff_eq]
  omega

end Go.Proofs.YtdfeinfaljidgaaDoor
