/- frame.laid, crc.More, frame.Put, save.bytes. -/
import Derived.Test.YtdfeinfaljidgaaDoorBytes
namespace Go.Proofs.YtdfeinfaljidgaaDoor
open Go Go.RowKit

set_option maxRecDepth 100000 in
theorem laid_any {w : World} {base k n m : Nat} {v : Value} {xs : List Value} (hown : w.ownsRow base 5 1 v k xs) (hb : base ≤ w.heap.size) (hk : k ≤ 100000) (hm : m ≤ 8) :
    Calls Tryd.prog 96 #[v, .int .u64 n, .int .i64 m] w fun e w' => ∃ v', e = .returned v' ∧ Same (ownL v) w w' ∧ w'.ownsRow base 5 1 v' (k + m) (xs ++ (leBytes n m).map fun n : UInt8 => .int .u8 n.toNat) := by
  have HOWN := hid hown
  clear hown
  go_enter Tryd.func96, Tryd.ntmps96
  go_wp2_with fail
  go_loopg [0, 9] (m + 1) (fun g u iv wr => ∃ i : Nat, i ≤ m ∧ i + g = m + 1 ∧ iv = .int .i64 i ∧ Same (ownL v) w wr ∧ (∀ x, x ∈ ownL u → x ∈ ownL v ∨ w.heap.size ≤ x) ∧ wr.ownsRow base 5 1 u (k + i) (xs ++ (leBytes n i).map fun n : UInt8 => .int .u8 n.toNat))
  case atStart => exact ⟨0, by omega, by omega, rfl, Same.refl _ _, fun _ h => .inl h, by simpa [leBytes] using HOWN.out⟩
  case round =>
    obtain ⟨i, him, hig, rfl, hsr, hor, hown⟩ := hrel
    have HS' := hid hsr; have HO := hid hown; have HR := hid hor; have HIG := hid hig
    clear hsr hown hor hig
    by_cases h8 : i = m
    · have glt : ¬ i < m := by omega
      have H8 := hid h8; clear h8 him
      go_wp2_with fail
      go_ret
      exact ⟨_, rfl, HS'.out, H8.out ▸ HO.out⟩
    · have glt : i < m := by omega
      have H8 := hid h8; clear h8
      go_wp2_with (at_builtin; refine Still.intro ?_)
      refine Still.of ?_
      obtain ⟨inf, hi, hz0, hz1, hz2⟩ := info_parts info_bytes
      have hb256 : ((n : Int) / 2 ^ (8 * i) % 256) = (((UInt8.ofNat (n / 256 ^ i % 256)).toNat : Nat) : Int) := by
        have h1 : (UInt8.ofNat (n / 256 ^ i % 256)).toNat = n / 256 ^ i % 256 := by simp [UInt8.toNat_ofNat']
        rw [h1, Int.pow_mul]
        simp
      rw [hb256]
      have hzz := HS'.out.size
      refine wpList_app_own rfl (.tmp 12) (.tmp 18) 22 rfl base 5 inf _ 1 1 und_bytes hi hz0 hz1 hz2 rfl (by decide) _ (k + i) _ rfl (HO.out.alloc _) ⟨wr.heap.size, 0, none⟩ 1 1 [.int .u8 ((UInt8.ofNat (n / 256 ^ i % 256)).toNat : Nat)] rfl (by decide) rfl (fun j u hj => by
        rw [Addr.add_lit, Nat.zero_add]
        match j with
        | 0 => simpa using hj
        | j + 1 => simp at hj) (by simp [Value.oneCell']) (by omega) (by omega) (by simp; omega) ?_
      intro v6 w6 hown6 hs6 hv6
      have HOWN6 := hid hown6; have HS6 := hid hs6; have HV6 := hid hv6; have HZZ := hid hzz
      clear hown6 hs6 hv6 hb256 hzz
      go_wp2_with fail
      go_roundg (gk - 1)
      case measure => have := HIG.out; have := H8.out; omega
      case rel =>
        refine ⟨i + 1, by omega, by have := HIG.out; omega, by simp, (HS'.out.alloc _).trans HS6.out (fun x hx => HR.out x hx), fun x hx => ?_, ?_⟩
        · rcases HV6.out with e | e
          · rw [e] at hx; exact HR.out x hx
          · rw [e] at hx; simp at hx; have := HZZ.out; exact .inr (by omega)
        · rw [leBytes_snoc, show k + (i + 1) = k + i + 1 by omega]; simpa using HOWN6.out
end Go.Proofs.YtdfeinfaljidgaaDoor
