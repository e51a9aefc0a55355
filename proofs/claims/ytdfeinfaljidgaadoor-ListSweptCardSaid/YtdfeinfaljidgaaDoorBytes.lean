/- save.bytes: an entry's frame. -/
import Derived.Test.YtdfeinfaljidgaaDoorRest
import Derived.Test.YtdfeinfaljidgaaDoorGrow
import Derived.Test.YtdfeinfaljidgaaDoorStream
import Derived.Deep.LoopGhost
import Derived.WalkSpells
import Derived.Laws.EntriesVeiled
namespace Go.Proofs.YtdfeinfaljidgaaDoor
open Go Go.RowKit

theorem stamp_any {w : World} {n : Nat} : Calls Tryd.prog 98 #[.int .u64 n] w fun e w' => e = .returned (.bool (stampOk n)) ∧ w' = w := by
  have hs : (decide ((0 : Int) < n) && decide ((n : Int) < 4611686018427387904)) = stampOk n := by
    unfold stampOk; rw [Bool.eq_iff_iff]; simp; omega
  by_cases h : 0 < n
  · have g1 : decide ((0 : Int) < n) = true := by simp; omega
    rw [g1, Bool.true_and] at hs
    have HS := hid hs
    clear hs
    go_enter Tryd.func98, Tryd.ntmps98
    go_wp2_with fail
    go_ret
    exact ⟨by rw [← HS.out]; rfl, rfl⟩
  · have g1 : decide ((0 : Int) < n) = false := by simp; omega
    rw [g1, Bool.false_and] at hs
    have HS := hid hs
    clear hs
    go_enter Tryd.func98, Tryd.ntmps98
    go_wp2_with fail
    go_ret
    exact ⟨by rw [← HS.out]; rfl, rfl⟩

theorem May_death {w : World} {st : Nat} : Calls Tryd.prog 94 #[.agg #[.int .i64 2, .int .u64 st, .int .u64 0, .int .u64 0, .int .u64 0, .int .u64 0]] w fun e w' => e = .returned (.bool (stampOk st)) ∧ Same [] w w' := by
  by_cases hs : stampOk st = true
  · have HS := hid hs
    clear hs
    go_enter Tryd.func94, Tryd.ntmps94
    go_wp2_with fail
    refine stamp_any.mono ?_
    rintro _ _ ⟨rfl, rfl⟩
    rw [HS.out]
    go_wp2_with fail
    go_ret
    exact ⟨by rw [HS.out]; rfl, (Same.refl [] w).alloc _⟩
  · have HS := hid (show stampOk st = false by simpa using hs)
    clear hs
    go_enter Tryd.func94, Tryd.ntmps94
    go_wp2_with fail
    refine stamp_any.mono ?_
    rintro _ _ ⟨rfl, rfl⟩
    rw [HS.out]
    go_wp2_with fail
    go_ret
    exact ⟨by rw [HS.out]; rfl, (Same.refl [] w).alloc _⟩

theorem info_ptrs : (Tryd.prog.info? 153).map (fun i => (i.zero, i.size, i.bytes)) = some (some (.pointer none), 1, 8) := by kernel_rfl
@[go_sem] theorem und_ptrs : Tryd.prog.underlying 150 = some (.slice 153) := by kernel_rfl

set_option maxRecDepth 100000 in
theorem Insert_nil {w : World} {b : Nat} {p : Value} (hb : w.heap[b]? = some (.cells #[p] 153 (0, 0))) (hp : p.oneCell' = true) :
    Calls Tryd.prog 100 #[.slice none 0 0, .int .i64 0, .slice (some ⟨b, 0, none⟩) 1 1] w fun e w' => ∃ b' c', e = .returned (.slice (some ⟨b', 0, none⟩) 1 c') ∧ Same [] w w' ∧ w'.cell? ⟨b', 0, none⟩ = some p := by
  obtain ⟨i, hi, hz0, hz1, hz2⟩ := info_parts info_ptrs
  have hsl : Sl [] w (.slice (some ⟨b, 0, none⟩) 1 1) 1 [p] := ⟨_, _, _, rfl, rfl, Nat.le_refl _, by omega, .inr ⟨b, 0, rfl, by simp, _, _, _, hb, fun j hj => by simp at hj; subst hj; rfl⟩⟩
  have H := hid hsl; have HP := hid hp; clear hsl hb hp
  go_enter Tryd.func100, Tryd.ntmps100
  go_wp2_with (at_builtin; refine wpList_app_tight (M := []) rfl (.tmp 23) (.tmp 24) 150 rfl 153 i _ 1 8 und_ptrs hi hz0 hz1 hz2 (Sl.nil _ _ _) H.out (by simpa using HP.out) (by simp) (by decide) rfl (by simp) (by simp) rfl rfl ?_; intro v' w' hs hv' _ hnew; obtain ⟨c', more, rfl, hb', hc', _⟩ := hnew (by simp))
  go_ret
  refine ⟨w.heap.size, c', rfl, hs, cell_of_block hb' (by simp only [List.nil_append]; rw [Array.getElem?_append_left (by simp)]; rfl)⟩

set_option maxRecDepth 100000 in
theorem fields_death {w : World} {be : Nat} (h0 : w.cell? ⟨be, 0, none⟩ = some (.int .i64 2)) :
    Calls Tryd.prog 95 #[.pointer (some ⟨be, 0, none⟩)] w fun e w' => ∃ b' c', e = .returned (.slice (some ⟨b', 0, none⟩) 1 c') ∧ Same [] w w' ∧ w'.cell? ⟨b', 0, none⟩ = some (.pointer (some ⟨be, 1, none⟩)) := by
  go_enter Tryd.func95, Tryd.ntmps95
  go_wp2_with fail
  refine (Insert_nil (block_new w _) rfl).mono ?_
  rintro _ w1 ⟨b', c', rfl, hs, hc⟩
  clear h0
  go_wp2_with fail
  go_ret
  exact ⟨b', c', rfl, ((Same.refl [] w).alloc _).then hs, hc⟩

theorem leBytes_snoc (n i : Nat) : leBytes n (i + 1) = leBytes n i ++ [UInt8.ofNat (n / 256 ^ i % 256)] := by
  induction i generalizing n with
  | zero => simp [leBytes]
  | succ i ih =>
    have e : leBytes n (i + 1 + 1) = UInt8.ofNat (n % 256) :: leBytes (n / 256) (i + 1) := rfl
    have e2 : leBytes n (i + 1) = UInt8.ofNat (n % 256) :: leBytes (n / 256) i := rfl
    rw [e, ih, e2, Nat.div_div_eq_div_mul, Nat.pow_succ, Nat.mul_comm 256]
    rfl
theorem leBytes_length (n i : Nat) : (leBytes n i).length = i := by
  induction i generalizing n with
  | zero => rfl
  | succ i ih => simp [leBytes, ih]

theorem Encode_no {w : World} {st : Nat} (hs : stampOk st = false) : Calls Tryd.prog 92 #[.agg #[.int .i64 2, .int .u64 st, .int .u64 0, .int .u64 0, .int .u64 0, .int .u64 0]] w fun e w' => e = .returned (.tuple #[.slice none 0 0, .int .i64 1]) ∧ Same [] w w' := by
  have HS := hid hs
  clear hs
  go_enter Tryd.func92, Tryd.ntmps92
  go_wp2_with fail
  refine May_death.mono ?_
  rintro _ w1 ⟨rfl, hs1⟩
  rw [HS.out]
  have H1 := hid hs1; clear hs1
  go_wp2_with fail
  go_ret2
  exact ⟨rfl, ((Same.refl [] w).alloc _).then H1.out⟩

set_option maxRecDepth 100000 in
theorem Encode_yes {M : List Nat} {w : World} {st : Nat} (hs : stampOk st = true) (hM : ∀ k, k ∈ M → k < w.heap.size) : Calls Tryd.prog 92 #[.agg #[.int .i64 2, .int .u64 st, .int .u64 0, .int .u64 0, .int .u64 0, .int .u64 0]] w fun e w' => ∃ v, e = .returned (.tuple #[v, .int .i64 0]) ∧ Same [] w w' ∧ Bytes M w' v (encodeE { kind := 2, stamp := st }) := by
  have HS := hid hs; have HM := hid hM
  clear hs hM
  go_enter Tryd.func92, Tryd.ntmps92
  go_wp2_with fail
  refine May_death.mono ?_
  rintro _ w1 ⟨rfl, hs1⟩
  rw [HS.out]
  have c0 := (hs1.block w.heap.size (by simp) (by simp)).trans (block_new w _)
  obtain ⟨x0, x1, x2, x3, x4, x5⟩ := cells6 c0
  have l0 : w.heap.size < w1.heap.size := lt_of_some c0
  have H1 := hid hs1; have C0 := hid c0; clear hs1 c0
  go_wp2_with fail
  refine calls_gen fun W hW => ?_
  have sW : Same [] w1 W := by rw [hW]; exact (Same.refl _ _).alloc _
  have bW : W.heap[w1.heap.size]? = some (.cells #[.int .u8 2] 5 (0, 0)) := by rw [hW]; exact block_new _ _
  clear hW
  have d0 := (sW.block _ l0 (by simp)).trans C0.out
  refine (fields_death (cell_of_block d0 rfl)).mono ?_
  rintro _ w2 ⟨b', c', rfl, hs2, hc⟩
  have e0 := (hs2.block _ (lt_of_some d0) (by simp)).trans d0
  have eb := (hs2.block _ (lt_of_some bW) (by simp)).trans bW
  have hown : w2.ownsRow w1.heap.size 5 1 (.slice (some ⟨w1.heap.size, 0, none⟩) 1 1) 1 [.int .u8 2] := ⟨rfl, .inr ⟨_, 1, _, rfl, Nat.le_refl _, eb, Nat.le_refl _, by simp [maxLen], rfl, rfl⟩⟩
  have hs02 : Same [] w w2 := ((((Same.refl [] w).alloc _).then H1.out).then sW).then hs2
  have E0 := hid e0; have HOWN := hid hown; have S02 := hid hs02; have L0 := hid l0; have HZ2 := hid (show w1.heap.size < w2.heap.size from lt_of_some eb)
  clear d0 bW sW hs2 e0 eb hown hs02 x0 x1 x2 x3 x4 x5 l0
  go_wp2_with fail
  refine wp_loop_rounds 2 ?_
  rw [rounds_succ]
  go_wp2_with fail
  clear hc
  go_loopg [4, 21] 9 (fun g v iv wr => ∃ i : Nat, i ≤ 8 ∧ i + g = 9 ∧ iv = .int .i64 i ∧ Same [] w wr ∧ wr.heap[w.heap.size]? = w2.heap[w.heap.size]? ∧ w2.heap.size ≤ wr.heap.size ∧ wr.ownsRow w1.heap.size 5 1 v (1 + i) (.int .u8 2 :: (leBytes st i).map fun n : UInt8 => .int .u8 n.toNat))
  case atStart => exact ⟨0, by omega, rfl, rfl, S02.out, rfl, Nat.le_refl _, HOWN.out⟩
  case round =>
    obtain ⟨i, hi8, hig, rfl, hsr, hbr, hzr, hown⟩ := hrel
    have e1 := hbr.trans E0.out
    obtain ⟨x0, x1, x2, x3, x4, x5⟩ := cells6 e1
    have HS' := hid hsr; have HO := hid hown; have HB := hid hbr; have HZ := hid hzr; have HIG := hid hig
    clear hsr hown hbr e1 hzr hig
    by_cases h8 : i = 8
    · have glt : decide ((i : Int) < 8) = false := by simp; omega
      have H8 := hid h8; clear h8 hi8
      go_wp2_with fail
      rw [rounds_succ]
      go_wp2_with fail
      go_ret2
      refine ⟨_, rfl, HS'.out, ?_⟩
      have hsl := own_sl (M := M) HO.out (by have := H8.out; omega) (fun k hk => by have := HM.out k hk; have := L0.out; omega)
      rw [H8.out] at hsl
      simpa [Bytes, encodeE] using hsl
    · have glt : decide ((i : Int) < 8) = true := by simp; omega
      have H8 := hid h8; clear h8
      go_wp2_with (at_builtin; refine Still.intro ?_)
      refine Still.of ?_
      obtain ⟨inf, hi, hz0, hz1, hz2⟩ := info_parts info_bytes
      have hb256 : ((st : Int) / 2 ^ (8 * i) % 256) = (((UInt8.ofNat (st / 256 ^ i % 256)).toNat : Nat) : Int) := by
        have h1 : (UInt8.ofNat (st / 256 ^ i % 256)).toNat = st / 256 ^ i % 256 := by simp [UInt8.toNat_ofNat']
        rw [h1, Int.pow_mul]
        simp
      rw [hb256]
      refine wpList_app_own rfl (.tmp 24) (.tmp 32) 22 rfl w1.heap.size 5 inf _ 1 1 und_bytes hi hz0 hz1 hz2 rfl (by decide) _ (1 + i) _ rfl (HO.out.alloc _) ⟨wr.heap.size, 0, none⟩ 1 1 [.int .u8 ((UInt8.ofNat (st / 256 ^ i % 256)).toNat : Nat)] rfl (by decide) rfl (fun j u hj => by
        rw [Addr.add_lit, Nat.zero_add]
        match j with
        | 0 => simpa using hj
        | j + 1 => simp at hj) (by simp [Value.oneCell']) (by omega) (by omega) (by have := L0.out; have := HZ.out; have := HZ2.out; simp; omega) ?_
      intro v6 w6 hown6 hs6 hv6
      go_wp2_with fail
      go_roundg (gk - 1)
      case measure => have := HIG.out; have := H8.out; omega
      case rel =>
        have hlo := owns_lt HO.out
        have hz2 := HZ2.out
        have hz := HZ.out
        have h0 := L0.out
        refine ⟨i + 1, by have := H8.out; omega, by have := HIG.out; omega, by simp, (HS'.out.alloc _).trans hs6 (fun x hx => .inr (by have := hlo x hx; omega)), ?_, ?_, ?_⟩
        · exact (hs6.block _ (by simp; omega) (fun hm => by have := hlo _ hm; omega)).trans ((Below.heap_alloc _ _ _ (by omega)).trans HB.out)
        · have := hs6.size; simp at this; omega
        · rw [leBytes_snoc, show 1 + (i + 1) = 1 + i + 1 by omega]; simpa using hown6
end Go.Proofs.YtdfeinfaljidgaaDoor
