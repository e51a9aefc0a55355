/- crc.More, crc.Sum. -/
import Derived.Test.YtdfeinfaljidgaaDoorFrame
namespace Go.Proofs.YtdfeinfaljidgaaDoor
open Go Go.RowKit

theorem halvesL_lt : ∀ m, m < 16 → halvesL.getD m 0 < 4294967296 := by decide
theorem crcHalf_lt {s : Nat} (hs : s < 4294967296) : crcHalf s < 4294967296 :=
  Nat.xor_lt_two_pow (n := 32) (by omega) (halvesL_lt _ (Nat.mod_lt _ (by decide)))
theorem halves_cell {w : World} (h : Halves w) {m : Nat} (hm : m < 16) : w.cell? ⟨0, m, none⟩ = some (.int .u32 (halvesL.getD m 0 : Nat)) := by
  obtain ⟨e, fr, h⟩ := h
  refine cell_of_block h ?_
  have hl : m < halvesL.length := hm
  simp [List.getD_eq_getElem?_getD, hl]
theorem half_bits {s : Nat} (hs : s < 4294967296) : bits .and .u32 (s : Int) 15 = ((s % 16 : Nat) : Int) ∧ bits .xor .u32 ((s : Int) / 16) ((halvesL.getD (s % 16) 0 : Nat) : Int) = ((crcHalf s : Nat) : Int) := by
  refine ⟨?_, ?_⟩
  · rw [show (15 : Int) = ((15 : Nat) : Int) from rfl, u32_and_nat _ _ hs (by decide), show (15 : Nat) = 2 ^ 4 - 1 from rfl, Nat.and_two_pow_sub_one_eq_mod]
  · rw [show ((s : Int) / 16) = ((s / 16 : Nat) : Int) by omega, u32_xor_nat _ _ (by omega) (halvesL_lt _ (Nat.mod_lt _ (by decide)))]; rfl

theorem not32 {s : Nat} (hs : s < 4294967296) : 4294967295 ^^^ s = 4294967295 - s := by
  have h := congrArg BitVec.toNat (BitVec.allOnes_xor (x := BitVec.ofNat 32 s))
  simpa [BitVec.toNat_xor, BitVec.toNat_not, Nat.mod_eq_of_lt hs] using h
theorem bits_not32 {s : Nat} (hs : s < 4294967296) : bits .xor .u32 IntKind.u32.max (s : Int) = ((4294967295 - s : Nat) : Int) := by
  rw [show IntKind.u32.max = ((4294967295 : Nat) : Int) from by decide, u32_xor_nat _ _ (by decide) hs, not32 hs]

set_option maxRecDepth 100000 in
theorem More_any {M : List Nat} {w : World} {v : Value} {bs : List UInt8} (hh : Halves w) (hb : Bytes M w v bs) :
    Calls Tryd.prog 101 #[.int .u32 0, v] w fun e w' => e = .returned (.int .u32 (crcMore 0 bs : Nat)) ∧ w' = w := by
  obtain ⟨a, l, c, rfl⟩ := hb.form
  have hl : l = bs.length := by
    obtain ⟨a', l', c', h1, h2, _⟩ := hb
    simp only [Value.slice.injEq] at h1
    obtain ⟨_, rfl, _⟩ := h1
    simpa using h2.symm
  subst hl
  have hlen : bs.length ≤ 140737488355328 := by
    obtain ⟨a', l', c', h1, h2, _, h4, _⟩ := hb
    have : bs.length = l' := by simpa using h2
    omega
  have HLEN := hid hlen; clear hlen
  have HH := hid hh; have HB := hid hb; clear hh hb
  go_enter Tryd.func101, Tryd.ntmps101
  go_wp2_with fail
  go_loopg [5, 12] (bs.length + 1) (fun g sv iv wr => wr = w ∧ ∃ i : Nat, i ≤ bs.length ∧ i + g = bs.length + 1 ∧ iv = .int .i64 i ∧ ∃ s : Nat, s < 4294967296 ∧ sv = .int .u32 s ∧ s = (bs.take i).foldl crcByte 4294967295)
  case atStart => exact ⟨rfl, 0, by omega, by omega, rfl, 4294967295, by decide, by simpa using congrArg (Value.int .u32) (bits_not32 (s := 0) (by decide)), by simp⟩
  case round =>
    obtain ⟨rfl, i, him, hig, rfl, s, hs, rfl, hsf⟩ := hrel
    have HSF := hid hsf; have HIG := hid hig; have HS := hid hs
    clear hsf hig
    by_cases h8 : i = bs.length
    · have glt : ¬ i < bs.length := by omega
      have H8 := hid h8; clear h8 him
      go_wp2_with fail
      go_ret
      refine ⟨?_, rfl⟩
      have hf := HSF.out
      rw [H8.out, List.take_length] at hf
      have he := bits_not32 hs
      show Ending.returned (.int .u32 (bits .xor .u32 IntKind.u32.max (s : Int))) = _
      rw [he, hf]
      rfl
    · have glt : i < bs.length := by omega
      have H8 := hid h8; clear h8
      obtain ⟨b, off, rfl⟩ : ∃ b off, a = some ⟨b, off, none⟩ := by
        obtain ⟨a', l', c', h1, h2, _, _, h4⟩ := HB.out
        simp only [Value.slice.injEq] at h1
        obtain ⟨rfl, rfl, rfl⟩ := h1
        rcases h4 with ⟨_, h4, _⟩ | ⟨b, off, rfl, _⟩
        · omega
        · exact ⟨b, off, rfl⟩
      have hc := Sl.cells_at HB.out i (.int .u8 (bs[i]).toNat) (by simp [glt])
      rw [Addr.add_lit] at hc
      have hc8 : (bs[i]).toNat < 4294967296 := by have := (bs[i]).toNat_lt; omega
      obtain ⟨c8, hc8e⟩ : ∃ c8, c8 = (bs[i]).toNat := ⟨_, rfl⟩
      rw [← hc8e] at hc hc8
      have hx1 : bits .xor .u32 (s : Int) (c8 : Int) = ((s ^^^ c8 : Nat) : Int) := u32_xor_nat _ _ hs hc8
      have hs1 : s ^^^ c8 < 4294967296 := Nat.xor_lt_two_pow (n := 32) hs hc8
      have HC8 := hid hc8e; clear hc8e
      obtain ⟨s1, hs1e⟩ : ∃ s1, s1 = s ^^^ c8 := ⟨_, rfl⟩
      rw [← hs1e] at hx1 hs1
      obtain ⟨ha1, hb1⟩ := half_bits hs1
      have hk1 := halves_cell HH.out (m := s1 % 16) (Nat.mod_lt _ (by decide))
      have hs2 := crcHalf_lt hs1
      obtain ⟨s2, hs2e⟩ : ∃ s2, s2 = crcHalf s1 := ⟨_, rfl⟩
      rw [← hs2e] at hb1 hs2
      obtain ⟨ha2, hb2⟩ := half_bits hs2
      have hk2 := halves_cell HH.out (m := s2 % 16) (Nat.mod_lt _ (by decide))
      have hm1 : s1 % 16 < 16 := Nat.mod_lt _ (by decide)
      have hm2 : s2 % 16 < 16 := Nat.mod_lt _ (by decide)
      have HS1 := hid hs1e; have HS2 := hid hs2e; have HS3 := hid (crcHalf_lt hs2)
      clear hs1e hs2e
      obtain ⟨q1, hq1⟩ : ∃ q, q = halvesL.getD (s1 % 16) 0 := ⟨_, rfl⟩
      obtain ⟨q2, hq2⟩ : ∃ q, q = halvesL.getD (s2 % 16) 0 := ⟨_, rfl⟩
      rw [← hq1] at hk1 hb1
      rw [← hq2] at hk2 hb2
      clear hq1 hq2
      obtain ⟨s3, hs3e⟩ : ∃ s3, s3 = crcHalf s2 := ⟨_, rfl⟩
      rw [← hs3e] at hb2
      have HS4 := hid hs3e; clear hs3e
      go_wp2_with fail
      go_roundg (gk - 1)
      case measure => have := HIG.out; omega
      case rel =>
        refine ⟨rfl, i + 1, by omega, by have := HIG.out; omega, by have := HLEN.out; simp [wrap64]; omega, s3, by rw [HS4.out]; exact HS3.out, rfl, ?_⟩
        rw [List.take_succ_eq_append_getElem glt, List.foldl_append, ← HSF.out, HS4.out, HS2.out, HS1.out, HC8.out]
        rfl
end Go.Proofs.YtdfeinfaljidgaaDoor
