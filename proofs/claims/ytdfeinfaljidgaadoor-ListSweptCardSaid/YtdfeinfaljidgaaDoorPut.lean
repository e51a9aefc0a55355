/- crc.Sum, frame.Put, save.bytes: BytesSpec. -/
import Derived.Test.YtdfeinfaljidgaaDoorCrc
namespace Go.Proofs.YtdfeinfaljidgaaDoor
open Go Go.RowKit

theorem Sum_any {M : List Nat} {w : World} {v : Value} {bs : List UInt8} (hh : Halves w) (hb : Bytes M w v bs) :
    Calls Tryd.prog 97 #[v] w fun e w' => e = .returned (.int .u32 (crcSum bs : Nat)) ∧ w' = w := by
  obtain ⟨a, l, c, rfl⟩ := hb.form
  have HH := hid hh; have HB := hid hb; clear hh hb
  go_enter Tryd.func97, Tryd.ntmps97
  go_wp2_with fail
  refine (More_any HH.out HB.out).mono ?_
  rintro _ _ ⟨rfl, rfl⟩
  go_wp2_with fail
  go_ret
  exact ⟨rfl, rfl⟩

set_option maxRecDepth 100000 in
theorem Put_any {M : List Nat} {w : World} {v : Value} {bs : List UInt8} (hh : Halves w) (hb : Bytes M w v bs) (hM : ∀ k, k ∈ M → k < w.heap.size) (h1 : 1 ≤ bs.length) (h2 : bs.length ≤ 65535) :
    Calls Tryd.prog 93 #[v] w fun e w' => ∃ v', e = .returned (.tuple #[v', .int .i64 0]) ∧ Same [] w w' ∧ Bytes M w' v' (frameOf bs) := by
  obtain ⟨a, l, c, rfl⟩ := hb.form
  have hl : l = bs.length := by
    obtain ⟨a', l', c', h1, h2, _⟩ := hb
    simp only [Value.slice.injEq] at h1
    obtain ⟨_, rfl, _⟩ := h1
    simpa using h2.symm
  subst hl
  have HH := hid hh; have HB := hid hb; have HM := hid hM; clear hh hb hM
  have g1 : decide ((bs.length : Int) < 1) = false := by simp; omega
  have g2 : ¬ 65535 < bs.length := by omega
  go_enter Tryd.func93, Tryd.ntmps93
  have g3 : decide (65535 < (bs.length : Int)) = false := by rw [decide_eq_false_iff_not]; omega
  obtain ⟨b, off, rfl⟩ : ∃ b off, a = some ⟨b, off, none⟩ := by
    obtain ⟨a', l', c', h3, h4, _, _, h5⟩ := HB.out
    simp only [Value.slice.injEq] at h3
    obtain ⟨rfl, rfl, rfl⟩ := h3
    rcases h5 with ⟨_, h5, _⟩ | ⟨b, off, rfl, _⟩
    · omega
    · exact ⟨b, off, rfl⟩
  go_wp2_with fail
  refine (laid_any (base := w.heap.size) (k := 0) (xs := []) (n := bs.length) (m := 2) (World.ownsRow_nil _ _ _ _) (Nat.le_refl _) (by omega) (by omega)).mono ?_
  rintro _ w1 ⟨v1, rfl, hs1, hown1⟩
  have S1 := hid (show Same [] w w1 from hs1); have O1 := hid hown1; clear hs1 hown1
  go_wp2_with fail
  refine (Sum_any (HH.out.same S1.out (by simp)) (HB.out.same S1.out (by simp))).mono ?_
  rintro _ w9 ⟨rfl, rfl⟩
  go_wp2_with fail
  have hcr : IntKind.u64.wrap ((crcSum bs : Nat) : Int) = ((crcSum bs : Nat) : Int) := by
    have : crcSum bs ≤ 4294967295 := Nat.sub_le _ _
    simp [IntKind.wrap, IntKind.bits, IntKind.signed]; omega
  rw [hcr]
  refine (laid_any (n := crcSum bs) (m := 4) O1.out S1.out.size (by omega) (by omega)).mono ?_
  rintro _ w2 ⟨v2, rfl, hs2, hown2⟩
  have S2 := hid (S1.out.trans hs2 (fun x hx => .inr (owns_lt O1.out x hx).1))
  have O2 := hid hown2; clear hs2 hown2 hcr
  obtain ⟨inf, hi, hz0, hz1, hz2⟩ := info_parts info_bytes
  have hB2 := HB.out.same S2.out (by simp)
  go_wp2_with (at_builtin; refine Still.intro ?_)
  refine Still.of ?_
  refine wpList_app_own rfl (.tmp 22) (.tmp 23) 22 rfl w.heap.size 5 inf _ 1 1 und_bytes hi hz0 hz1 hz2 rfl (by decide) _ (0 + 2 + 4) _ rfl O2.out ⟨b, off, none⟩ bs.length c (bs.map fun n : UInt8 => .int .u8 n.toNat) rfl (by omega) (by simp) (Sl.cells_at hB2) (fun u hu => by obtain ⟨_, _, rfl⟩ := List.mem_map.1 hu; rfl) (by omega) (by omega) S2.out.size ?_
  intro v3 w3 hown3 hs3 _
  have S3 := hid (S2.out.trans hs3 (fun x hx => .inr (owns_lt O2.out x hx).1))
  have O3 := hid hown3; clear hs3 hown3 hB2
  go_wp2_with fail
  go_ret2
  refine ⟨_, rfl, S3.out, ?_⟩
  have hsl := own_sl (M := M) O3.out (by omega) HM.out
  unfold frameOf
  rw [if_neg (by omega)]
  simpa [Bytes, List.append_assoc] using hsl

theorem encode_death_length (st : Nat) : (encodeE { kind := 2, stamp := st }).length = 9 := by simp [encodeE, leBytes_length]
theorem may_death (st : Nat) : entryMay { kind := 2, stamp := st } = stampOk st := by simp [entryMay]

theorem Put_none {w : World} : Calls Tryd.prog 93 #[.slice none 0 0] w fun e w' => e = .returned (.tuple #[.slice none 0 0, .int .i64 1]) ∧ w' = w := by
  go_enter Tryd.func93, Tryd.ntmps93
  go_wp2_with fail
  go_ret2
  exact ⟨rfl, rfl⟩

theorem bytesSpec : BytesSpec := by
  intro M w st hM hh hst
  have HM := hid hM; have HH := hid hh; clear hM hh
  by_cases hs : stampOk st = true
  · have hb : bytesOf { kind := 2, stamp := st } = frameOf (encodeE { kind := 2, stamp := st }) := by unfold bytesOf; rw [may_death, hs]; rfl
    rw [hb]
    have HS := hid hs; clear hs hb
    go_enter Tryd.func90, Tryd.ntmps90
    go_wp2_with fail
    have hs0 : ∀ o, Same [] w (w.alloc o) := fun o => (Same.refl [] w).alloc o
    refine (Encode_yes (M := M) HS.out (fun k hk => by have := HM.out k hk; simp; omega)).mono ?_
    rintro _ w1 ⟨v, rfl, hs1, hv⟩
    obtain ⟨a, l, c, rfl⟩ := hv.form
    have S1 := hid ((hs0 _).then hs1); have HV := hid hv; clear hs1 hv
    go_wp2_with fail
    refine (Put_any (M := M) (HH.out.same S1.out (by simp)) HV.out (fun k hk => Nat.lt_of_lt_of_le (HM.out k hk) S1.out.size) (by rw [encode_death_length]; omega) (by rw [encode_death_length]; omega)).mono ?_
    rintro _ w2 ⟨v2, rfl, hs2, hv2⟩
    obtain ⟨a2, l2, c2, rfl⟩ := hv2.form
    have S2 := hid (S1.out.then hs2); have HV2 := hid hv2; clear hs2 hv2
    go_wp2_with fail
    go_ret
    exact ⟨S2.out, _, rfl, HV2.out⟩
  · have hs : stampOk st = false := by simpa using hs
    have hb : bytesOf { kind := 2, stamp := st } = [] := by unfold bytesOf; rw [may_death, hs]; rfl
    rw [hb]
    have HS := hid hs; clear hs hb
    go_enter Tryd.func90, Tryd.ntmps90
    go_wp2_with fail
    refine (Encode_no HS.out).mono ?_
    rintro _ w1 ⟨rfl, hs1⟩
    have S1 := hid (((Same.refl [] w).alloc _).then hs1); clear hs1
    go_wp2_with fail
    refine Put_none.mono ?_
    rintro _ w9 ⟨rfl, rfl⟩
    go_wp2_with fail
    go_ret
    exact ⟨S1.out, _, rfl, Bytes.nil _ _⟩
end Go.Proofs.YtdfeinfaljidgaaDoor
