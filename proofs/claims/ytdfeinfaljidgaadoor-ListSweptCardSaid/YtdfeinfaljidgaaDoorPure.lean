/- The contracts of packages word, cell and key: functions of numbers. -/
import Derived.Test.YtdfeinfaljidgaaDoorProg
import Derived.Test.YtdfeinfaljidgaaDoorSpec
import Derived.WalkLawsBesides
import Derived.Deep.QuietTactic
import Derived.BigQuiet
namespace Go.Proofs.YtdfeinfaljidgaaDoor
open Go Go.RowKit

theorem quietC {P : Program} {f : FuncId} {args : Array Value} {w : World} {n : Nat} {v : Value} (h : Calls P f args (w.drewN n) fun e w' => e = .returned v ∧ w.drewN n = w') :
    Calls P f args (w.drewN n) fun e w'' => e = .returned v ∧ ∃ m, w'' = w.drewN m := h.mono fun _ _ ⟨he, hw⟩ => ⟨he, n, hw.symm⟩
theorem ret_i64 {a b : Int} (h : a = b) : Ending.returned (.int .i64 a) = .returned (.int .i64 b) := by rw [h]
theorem ret_u64 {a b : Int} (h : a = b) : Ending.returned (.int .u64 a) = .returned (.int .u64 b) := by rw [h]
theorem ret_bool {a b : Bool} (h : a = b) : Ending.returned (.bool a) = .returned (.bool b) := by rw [h]


theorem Ref_any {n : Nat} {w : World} (h : n < W64) : Calls Tryd.prog 44 #[.int .u64 n] w fun e w' => e = .returned (.int .i64 (ref n : Nat)) ∧ w = w' := by
  have H := hid h; clear h
  go_enter Tryd.func44, Tryd.ntmps44
  go_wp2
  go_ret
  exact ⟨ret_i64 (bits_ref H.out), rfl⟩










theorem WMark_any {n : Nat} {w : World} (h : n < W64) : Calls Tryd.prog 39 #[.int .u64 n] w fun e w' => e = .returned (.bool (marked n)) ∧ w = w' := by
  have H := hid h; clear h
  go_enter Tryd.func39, Tryd.ntmps39
  go_wp2
  go_ret
  exact ⟨ret_bool (bits_mark H.out), rfl⟩

theorem Link_any {r : Nat} {m : Bool} {w : World} (h : r < 1048577) : Calls Tryd.prog 34 #[.int .i64 r, .bool m] w fun e w' => e = .returned (.int .u64 (link r m : Nat)) ∧ w = w' := by
  cases m
  · go_enter Tryd.func34, Tryd.ntmps34
    go_wp2
    go_ret
    exact ⟨ret_u64 (by simp [link]; omega), rfl⟩
  · go_enter Tryd.func34, Tryd.ntmps34
    go_wp2
    go_ret
    exact ⟨ret_u64 (by rw [link_true, bits_or1 (by unfold W64; omega) (by omega)]; simp [link]), rfl⟩
theorem Field_any {t r f : Nat} {w : World} (h1 : t ≤ 64) (h2 : r ≤ 1048576) (h3 : f ≤ 8) : Calls Tryd.prog 55 #[.int .i64 t, .int .i64 r, .int .i64 f] w fun e w' => e = .returned (.int .i64 (field t r f : Nat)) ∧ w = w' := by
  go_enter Tryd.func55, Tryd.ntmps55
  go_wp2
  go_ret
  exact ⟨ret_i64 (by unfold field; omega), rfl⟩
theorem CNext_any {t r : Nat} {w : World} (h1 : t ≤ 64) (h2 : r ≤ 1048576) : Calls Tryd.prog 36 #[.int .i64 t, .int .i64 r] w fun e w' => e = .returned (.int .i64 (next t r : Nat)) ∧ w = w' := by
  by_cases h : r = 0
  · subst h
    go_enter Tryd.func36, Tryd.ntmps36
    go_wp2
    go_ret
    exact ⟨rfl, rfl⟩
  · have h' : (((r : Nat) : Int) == 0) = false := by simp; omega
    have H := hid h; clear h
    go_enter Tryd.func36, Tryd.ntmps36
    go_wp2_with (go_at_call 55; refine (Field_any (f := 0) h1 h2 (by omega)).mono ?_; rintro e w' ⟨rfl, rfl⟩)
    go_ret
    exact ⟨ret_i64 (by unfold next; rw [if_neg H.out]), rfl⟩

theorem Split_any {n : Nat} {w : World} (h : n < W64) : Calls Tryd.prog 42 #[.int .u64 n] w fun e w' => e = .returned (.tuple #[.int .i64 ((n / 2147483648 : Nat) : Int), .int .i64 ((n % 2147483648 : Nat) - 1 : Int)]) ∧ w = w' := by
  have H := hid h; clear h
  go_enter Tryd.func42, Tryd.ntmps42
  go_wp2
  go_ret2
  refine ⟨?_, rfl⟩
  show Ending.returned (.tuple #[.int .i64 (wrap64 ((n : Int) / 2147483648)), .int .i64 (wrap64 (wrap64 (bits .and .u64 (n : Int) 2147483647) - 1))]) = _
  rw [bits_split H.out, bits_shr31 H.out]

theorem Stamp_any {n : Nat} {w : World} : Calls Tryd.prog 87 #[.int .u64 n] w fun e w' => e = .returned (.int .u64 (stamp n : Nat)) ∧ w = w' := by
  go_enter Tryd.func87, Tryd.ntmps87
  go_wp2
  go_ret
  exact ⟨ret_u64 (by simp [stamp]), rfl⟩
theorem Has_any {n bit : Nat} {w : World} (h : n < W64) (hb : bit = 1 ∨ bit = 2) : Calls Tryd.prog 58 #[.int .u64 n, .int .i64 bit] w fun e w' => e = .returned (.bool (hasBit n bit)) ∧ w = w' := by
  have H := hid h; clear h
  rcases hb with rfl | rfl
  · go_enter Tryd.func58, Tryd.ntmps58
    go_wp2
    go_ret
    exact ⟨ret_bool (bits_has1 H.out), rfl⟩
  · go_enter Tryd.func58, Tryd.ntmps58
    go_wp2
    go_ret
    exact ⟨ret_bool (bits_has2 H.out), rfl⟩
theorem limbo_any {n : Nat} {w : World} : Calls Tryd.prog 85 #[.int .u64 n] w fun e w' => e = .returned (.int .i64 (limbo n : Nat)) ∧ w = w' := by
  have hm : n % 3 < 3 := Nat.mod_lt _ (by decide)
  go_enter Tryd.func85, Tryd.ntmps85
  go_wp2
  go_ret
  exact ⟨ret_i64 (by simp only [limbo]; omega), rfl⟩
set_option maxRecDepth 100000 in
theorem Right_any {n : Nat} {w : World} (h : n < W64) : Calls Tryd.prog 99 #[.int .u64 n] w fun e w' => e = .returned (.bool (rightKey n)) ∧ w = w' := by
  have H := hid h; clear h
  have el := bits_low31 H.out
  by_cases h1 : n / 2147483648 < 1073741824
  · have g1 : decide ((n : Int) / 2147483648 < 1073741824) = true := by simp; omega
    have G := hid h1; clear h1
    go_enter Tryd.func99, Tryd.ntmps99
    go_wp2
    go_ret
    refine ⟨ret_bool ?_, rfl⟩
    have := G.out
    unfold rightKey
    rw [Bool.eq_iff_iff]; simp; omega
  · have g1 : decide ((n : Int) / 2147483648 < 1073741824) = false := by simp; omega
    have G := hid h1; clear h1
    go_enter Tryd.func99, Tryd.ntmps99
    go_wp2
    go_ret
    refine ⟨ret_bool ?_, rfl⟩
    have := G.out
    unfold rightKey
    rw [Bool.eq_iff_iff]; simp; omega
end Go.Proofs.YtdfeinfaljidgaaDoor
