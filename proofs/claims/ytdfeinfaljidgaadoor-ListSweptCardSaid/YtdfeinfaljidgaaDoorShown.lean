/- wealdlaw15.shown: the document's example is true. -/
import Derived.Test.YtdfeinfaljidgaaDoorAlone
import Derived.Test.YtdfeinfaljidgaaDoorPoke
namespace Go.Proofs.YtdfeinfaljidgaaDoor
open Go Go.RowKit

theorem okw_new {t c me : Nat} (ht : t ≤ 64) (hc : c ≤ 65536) (hm : me < t) : OkW me (newW t c) :=
  ⟨by rw [show (newW t c).mem.word.length = _ from newW_len t c]; omega, by simp [newW, newD]; omega, by simp [newW, newD]; omega, by simpa [newW, newD] using hm, by simpa [newW, newD] using hm⟩
theorem OkW.put {me i n : Nat} {x : WorldM} (h : OkW me x) : OkW me (x.put i n) := ⟨by simpa [WorldM.put] using h.1, h.2, h.3, h.4, h.5⟩

def sh0 : WorldM := (newW 1 2).put (field 1 1 1) 5
def sh1 : WorldM := (sh0.put (field 1 1 0) 0).put 0 2
theorem sh_run1 : runW 0 (listP 9 1 { kind := 24, u := (0 : Nat), v := (0 : Nat), w := 1 }) sh0 = some ({ is := true }, sh1, [{}, { n := 1 }]) := by kernel_rfl
theorem sh_run2 : runW 0 (listP 9 1 { kind := 8, u := (0 : Nat), v := (0 : Nat), w := 5 }) sh1 = some ({ is := true, n := 1, w := 0 }, sh1, [{ n := 2 }, {}, { n := 5 }]) := by kernel_rfl
theorem sh_run3 : runW 0 (listP 9 1 { kind := 8, u := (0 : Nat), v := (0 : Nat), w := 4 }) sh1 = some ({ n := 1 }, sh1, [{ n := 2 }, {}, { n := 5 }]) := by kernel_rfl
theorem sh_run4 : runW 0 (listP 9 1 { kind := 8, u := (0 : Nat), v := (0 : Nat), w := 6 }) sh1 = some ({ n := 0, w := 1 }, sh1, [{ n := 2 }, {}, { n := 5 }]) := by kernel_rfl
theorem sh_run5 : runW 0 (listP 9 1 { kind := 25, u := (0 : Nat), v := (0 : Nat), w := 5 }) sh1 = some ({ is := true, n := 1 }, sh1, [{ n := 2 }, { n := 5 }]) := by kernel_rfl

set_option maxRecDepth 100000 in
set_option maxHeartbeats 4000000 in
theorem shown_any {w : World} (HBy : BytesSpec) (hh : Halves w) :
    Calls Tryd.prog 7 #[] w fun e w' => e = .returned (.bool true) ∧ Same [] w w' := by
  have HH := hid hh; clear hh
  go_enter Tryd.func7, Tryd.ntmps7
  go_wp2_with fail
  refine (RNew_any (t := 1) (c := 2) (by decide) (by decide) (by decide)).mono ?_
  rintro _ w1 ⟨b, b0, b1, rfl, hs1, hb, hb0, hb1, hw, hw0, hw1⟩
  have hv := rworld_new (t := 1) (c := 2) (by decide) (by decide) hb0 hb1 hw hw0 hw1
  have HV := hid hv; have HS := hid hs1
  have HC := hid hw
  clear hv hs1 hw0 hw1 hw
  go_wp2_with fail
  refine wp_gen fun W hW => ?_
  have hs2 : Same [] w1 W := by rw [hW]; exact (Same.refl _ _).alloc _
  have d0 : W.heap[w1.heap.size]? = some (.cells #[.int .i64 1, .int .i64 2, .slice (some ⟨b, 0, none⟩) 25 25, .int .u64 0, .slice (some ⟨b0, 0, none⟩) 1 1, .slice (some ⟨b1, 0, none⟩) 1 1] 33 (0, 0)) := by rw [hW]; exact block_at (by simp)
  clear hW
  have hv2 := HV.out.same hs2 (by simp)
  obtain ⟨b', off', e, hlt, _, hfr, hcell⟩ := hv2.at (by decide)
  simp only [Option.some.injEq, Addr.mk.injEq, and_true] at e
  obtain ⟨rfl, rfl⟩ := e
  have q0 := hcell 10 (by decide)
  rw [Nat.zero_add] at q0
  have qf := hfr 10
  obtain ⟨x0, x1, x2, x3, x4, x5⟩ := cells6 d0
  have HV2 := hid hv2; have HS2 := hid (HS.out.then hs2); have D0 := hid d0
  have hbl : b < w1.heap.size := lt_of_some HC.out
  clear hv2 hs2 d0 hcell hfr
  go_region_with (go_at_call 10; refine (RField_any (t := 1) (r := 1) (f := 1) (by decide) (by decide) (by decide) (by decide)).mono ?_; rintro e w' ⟨rfl, rfl⟩; rw [show ((field 1 1 1 : Nat) : Int) = (10 : Int) from rfl])
  all_goals refine then_gen fun W3 hW3 => ?_
  all_goals have hs3 : Same [b] W W3 := by rw [hW3]; (repeat (with_reducible first | refine Same.drew ?_ | refine Same.set ?_ (.inl (by simp)))); exact Same.refl _ _
  all_goals have hv3 : RWorld [] W3 (.agg #[.int .i64 1, .int .i64 2, .slice (some ⟨b, 0, none⟩) 25 25, .int .u64 0, .slice (some ⟨b0, 0, none⟩) 1 1, .slice (some ⟨b1, 0, none⟩) 1 1]) sh0 := by rw [hW3]; exact (HV2.out.poke (i := 10) (n := 5) (by decide) (by decide)).same ((Same.refl [] _).drew) (by simp)
  all_goals have d1 : W3.heap[w1.heap.size]? = some (.cells #[.int .i64 1, .int .i64 2, .slice (some ⟨b, 0, none⟩) 25 25, .int .u64 0, .slice (some ⟨b0, 0, none⟩) 1 1, .slice (some ⟨b1, 0, none⟩) 1 1] 33 (0, 0)) := (hs3.block _ (lt_of_some D0.out) (by simp; omega)).trans D0.out
  all_goals clear hW3 x0 x1 x2 x3 x4 x5 q0 qf
  all_goals obtain ⟨x0, x1, x2, x3, x4, x5⟩ := cells6 d1
  all_goals have HS3 := hid (HS2.out.trans hs3 (fun x hx => .inr (by simp at hx; omega)))
  all_goals have HV3 := hid hv3
  all_goals have hH3 := hid (HH.out.same HS3.out (by simp))
  all_goals clear hs3 hv3 d1
  all_goals go_wp2_with fail
  all_goals refine (alone_any (M := []) (me := 0) (n := 9) (t := 1) (kd := 24) (u := 0) (vv := 0) (wt := 1) (most := 9) HBy hH3.out (by simp) HV3.out (by simp) (okw_new (by decide) (by decide) (by decide)).put rfl (by decide) (by decide) (by decide) (by decide) (fun _ => by decide) sh_run1 (by decide) (by decide)).mono ?_
  all_goals rintro _ w4 ⟨v4, o4, rfl, hs4, hv4, ho4⟩
  all_goals obtain ⟨ma, ml, mc, ra, rl, rc, sa, sl, sc, rfl⟩ := hv4.forms
  all_goals obtain ⟨la4, ll4, lc4, rfl⟩ := ho4.forms
  all_goals have HS4 := hid (HS3.out.then hs4)
  all_goals have HV4 := hid hv4
  all_goals have HH4 := hid (HH.out.same HS4.out (by simp))
  all_goals clear hs4 hv4 ho4 x0 x1 x2 x3 x4 x5 HS3 HV3 hH3 HS2 HV2 HS HV HC D0 hlt
  all_goals go_wp2_with fail
  all_goals refine calls_gen fun W5 hW5 => ?_
  all_goals have hs5 : Same [] w4 W5 := by rw [hW5]; (repeat (with_reducible first | refine Same.alloc ?_ _ | refine Same.drew ?_)); exact Same.refl _ _
  all_goals have d0 : W5.heap[w4.heap.size]? = some (.cells #[.int .i64 sh1.mem.T, .int .i64 sh1.mem.C, .slice ma ml mc, .int .u64 sh1.disk.root, .slice ra rl rc, .slice sa sl sc] 33 (0, 0)) := by rw [hW5]; exact block_old (block_at (by simp))
  all_goals have d1 : W5.heap[w4.heap.size + 1]? = some (.cells #[.int .i64 0, .bool true, .int .i64 0, .int .u64 0, .slice la4 ll4 lc4] 38 (0, 0)) := by rw [hW5]; exact block_at (by simp)
  all_goals clear hW5
  all_goals obtain ⟨p, hp⟩ : ∃ p, p = w4.heap.size := ⟨_, rfl⟩
  all_goals rw [← hp] at d0 d1 ⊢
  all_goals have D0 := hid d0; have E4 := hid d1; have HS5 := hid (HS4.out.then hs5); have HV5 := hid (HV4.out.same hs5 (by simp))
  all_goals clear hs5 d0 d1 HV4 HS4 HH4 hp
  all_goals have hH5 := hid (HH.out.same HS5.out (by simp))
  all_goals refine (alone_any (M := []) (me := 0) (n := 9) (t := 1) (kd := 8) (u := 0) (vv := 0) (wt := 5) (most := 9) HBy hH5.out (by simp) HV5.out (by simp) (okw_new (by decide) (by decide) (by decide)).put.put.put rfl (by decide) (by decide) (by decide) (by decide) (by decide) sh_run2 (by decide) (by decide)).mono ?_
  all_goals rintro _ w6 ⟨v6, o6, rfl, hs6, hv6, ho6⟩
  all_goals obtain ⟨xa6, xl6, xc6, ya6, yl6, yc6, za6, zl6, zc6, rfl⟩ := hv6.forms
  all_goals obtain ⟨la6, ll6, lc6, rfl⟩ := ho6.forms
  all_goals have d0 := (hs6.block _ (lt_of_some D0.out) (by simp)).trans D0.out
  all_goals have e4 := (hs6.block _ (lt_of_some E4.out) (by simp)).trans E4.out
  all_goals obtain ⟨x0, x1, x2, x3, x4, x5⟩ := cells6 d0
  all_goals have HS6 := hid (HS5.out.then hs6); have HV6 := hid (HV5.out.same hs6 (by simp))
  all_goals have hpw : p < w6.heap.size := lt_of_some d0
  all_goals have D0 := hid d0
  all_goals have E4 := hid e4
  all_goals clear d0 e4 hs6 hv6 ho6 HS5 HV5 hH5
  all_goals go_wp2_with fail
  all_goals refine calls_gen fun W7 hW7 => ?_
  all_goals have hs7 : Same [] w6 W7 := by rw [hW7]; (repeat (with_reducible first | refine Same.alloc ?_ _ | refine Same.drew ?_)); exact Same.refl _ _
  all_goals have d1 : W7.heap[w6.heap.size + 1]? = some (.cells #[.int .i64 0, .bool true, .int .i64 1, .int .u64 0, .slice la6 ll6 lc6] 38 (0, 0)) := by rw [hW7]; exact block_at (by simp)
  all_goals clear hW7 x0 x1 x2 x3 x4 x5
  all_goals obtain ⟨p6, hp6⟩ : ∃ p, p = w6.heap.size := ⟨_, rfl⟩
  all_goals rw [← hp6] at d1 hpw ⊢
  all_goals have d0 := (hs7.block _ (lt_of_some D0.out) (by simp)).trans D0.out
  all_goals clear D0
  all_goals have D0 := hid d0; have HS7 := hid (HS6.out.then hs7); have HV7 := hid (HV6.out.same hs7 (by simp))
  all_goals have e4 := (hs7.block _ (lt_of_some E4.out) (by simp)).trans E4.out
  all_goals clear E4
  all_goals have E4 := hid e4
  all_goals have E6 := hid d1
  all_goals clear hs7 d0 d1 e4 HS6 HV6 hp6 hpw
  all_goals have hH7 := hid (HH.out.same HS7.out (by simp))
  all_goals refine (alone_any (M := []) (me := 0) (n := 9) (t := 1) (kd := 8) (u := 0) (vv := 0) (wt := 4) (most := 9) HBy hH7.out (by simp) HV7.out (by simp) (okw_new (by decide) (by decide) (by decide)).put.put.put rfl (by decide) (by decide) (by decide) (by decide) (by decide) sh_run3 (by decide) (by decide)).mono ?_
  all_goals rintro _ w8 ⟨v8, o8, rfl, hs8, hv8, ho8⟩
  all_goals obtain ⟨xa8, xl8, xc8, ya8, yl8, yc8, za8, zl8, zc8, rfl⟩ := hv8.forms
  all_goals obtain ⟨la8, ll8, lc8, rfl⟩ := ho8.forms
  all_goals have d0 := (hs8.block _ (lt_of_some D0.out) (by simp)).trans D0.out
  all_goals have e4 := (hs8.block _ (lt_of_some E4.out) (by simp)).trans E4.out
  all_goals have e6 := (hs8.block _ (lt_of_some E6.out) (by simp)).trans E6.out
  all_goals obtain ⟨x0, x1, x2, x3, x4, x5⟩ := cells6 d0
  all_goals have HS8 := hid (HS7.out.then hs8); have HV8 := hid (HV7.out.same hs8 (by simp))
  all_goals have hpw : p < w8.heap.size := lt_of_some d0
  all_goals have D0 := hid d0
  all_goals have E4 := hid e4
  all_goals have E6 := hid e6
  all_goals clear d0 e4 e6 hs8 hv8 ho8 HS7 HV7 hH7
  all_goals go_wp2_with fail
  all_goals refine calls_gen fun W9 hW9 => ?_
  all_goals have hs9 : Same [] w8 W9 := by rw [hW9]; (repeat (with_reducible first | refine Same.alloc ?_ _ | refine Same.drew ?_)); exact Same.refl _ _
  all_goals have d1 : W9.heap[w8.heap.size + 1]? = some (.cells #[.int .i64 0, .bool false, .int .i64 1, .int .u64 0, .slice la8 ll8 lc8] 38 (0, 0)) := by rw [hW9]; exact block_at (by simp)
  all_goals clear hW9 x0 x1 x2 x3 x4 x5
  all_goals obtain ⟨p8, hp8⟩ : ∃ p, p = w8.heap.size := ⟨_, rfl⟩
  all_goals rw [← hp8] at d1 hpw ⊢
  all_goals have d0 := (hs9.block _ (lt_of_some D0.out) (by simp)).trans D0.out
  all_goals clear D0
  all_goals have D0 := hid d0; have HS9 := hid (HS8.out.then hs9); have HV9 := hid (HV8.out.same hs9 (by simp))
  all_goals have e4 := (hs9.block _ (lt_of_some E4.out) (by simp)).trans E4.out
  all_goals clear E4
  all_goals have E4 := hid e4
  all_goals have e6 := (hs9.block _ (lt_of_some E6.out) (by simp)).trans E6.out
  all_goals clear E6
  all_goals have E6 := hid e6
  all_goals have E8 := hid d1
  all_goals clear hs9 d0 d1 e4 e6 HS8 HV8 hp8 hpw
  all_goals have hH9 := hid (HH.out.same HS9.out (by simp))
  all_goals refine (alone_any (M := []) (me := 0) (n := 9) (t := 1) (kd := 8) (u := 0) (vv := 0) (wt := 6) (most := 9) HBy hH9.out (by simp) HV9.out (by simp) (okw_new (by decide) (by decide) (by decide)).put.put.put rfl (by decide) (by decide) (by decide) (by decide) (by decide) sh_run4 (by decide) (by decide)).mono ?_
  all_goals rintro _ w10 ⟨v10, o10, rfl, hs10, hv10, ho10⟩
  all_goals obtain ⟨xa10, xl10, xc10, ya10, yl10, yc10, za10, zl10, zc10, rfl⟩ := hv10.forms
  all_goals obtain ⟨la10, ll10, lc10, rfl⟩ := ho10.forms
  all_goals have d0 := (hs10.block _ (lt_of_some D0.out) (by simp)).trans D0.out
  all_goals have e4 := (hs10.block _ (lt_of_some E4.out) (by simp)).trans E4.out
  all_goals have e6 := (hs10.block _ (lt_of_some E6.out) (by simp)).trans E6.out
  all_goals have e8 := (hs10.block _ (lt_of_some E8.out) (by simp)).trans E8.out
  all_goals obtain ⟨x0, x1, x2, x3, x4, x5⟩ := cells6 d0
  all_goals have HS10 := hid (HS9.out.then hs10); have HV10 := hid (HV9.out.same hs10 (by simp))
  all_goals have hpw : p < w10.heap.size := lt_of_some d0
  all_goals have D0 := hid d0
  all_goals have E4 := hid e4
  all_goals have E6 := hid e6
  all_goals have E8 := hid e8
  all_goals clear d0 e4 e6 e8 hs10 hv10 ho10 HS9 HV9 hH9
  all_goals go_wp2_with fail
  all_goals refine calls_gen fun W11 hW11 => ?_
  all_goals have hs11 : Same [] w10 W11 := by rw [hW11]; (repeat (with_reducible first | refine Same.alloc ?_ _ | refine Same.drew ?_)); exact Same.refl _ _
  all_goals have d1 : W11.heap[w10.heap.size + 1]? = some (.cells #[.int .i64 0, .bool false, .int .i64 0, .int .u64 1, .slice la10 ll10 lc10] 38 (0, 0)) := by rw [hW11]; exact block_at (by simp)
  all_goals clear hW11 x0 x1 x2 x3 x4 x5
  all_goals obtain ⟨p10, hp10⟩ : ∃ p, p = w10.heap.size := ⟨_, rfl⟩
  all_goals rw [← hp10] at d1 hpw ⊢
  all_goals have d0 := (hs11.block _ (lt_of_some D0.out) (by simp)).trans D0.out
  all_goals clear D0
  all_goals have D0 := hid d0; have HS11 := hid (HS10.out.then hs11); have HV11 := hid (HV10.out.same hs11 (by simp))
  all_goals have e4 := (hs11.block _ (lt_of_some E4.out) (by simp)).trans E4.out
  all_goals clear E4
  all_goals have E4 := hid e4
  all_goals have e6 := (hs11.block _ (lt_of_some E6.out) (by simp)).trans E6.out
  all_goals clear E6
  all_goals have E6 := hid e6
  all_goals have e8 := (hs11.block _ (lt_of_some E8.out) (by simp)).trans E8.out
  all_goals clear E8
  all_goals have E8 := hid e8
  all_goals have E10 := hid d1
  all_goals clear hs11 d0 d1 e4 e6 e8 HS10 HV10 hp10 hpw
  all_goals have hH11 := hid (HH.out.same HS11.out (by simp))
  all_goals refine (alone_any (M := []) (me := 0) (n := 9) (t := 1) (kd := 25) (u := 0) (vv := 0) (wt := 5) (most := 9) HBy hH11.out (by simp) HV11.out (by simp) (okw_new (by decide) (by decide) (by decide)).put.put.put rfl (by decide) (by decide) (by decide) (by decide) (by decide) sh_run5 (by decide) (by decide)).mono ?_
  all_goals rintro _ w12 ⟨v12, o12, rfl, hs12, hv12, ho12⟩
  all_goals obtain ⟨xa12, xl12, xc12, ya12, yl12, yc12, za12, zl12, zc12, rfl⟩ := hv12.forms
  all_goals obtain ⟨la12, ll12, lc12, rfl⟩ := ho12.forms
  all_goals have d0 := (hs12.block _ (lt_of_some D0.out) (by simp)).trans D0.out
  all_goals have e4 := (hs12.block _ (lt_of_some E4.out) (by simp)).trans E4.out
  all_goals have e6 := (hs12.block _ (lt_of_some E6.out) (by simp)).trans E6.out
  all_goals have e8 := (hs12.block _ (lt_of_some E8.out) (by simp)).trans E8.out
  all_goals have e10 := (hs12.block _ (lt_of_some E10.out) (by simp)).trans E10.out
  all_goals obtain ⟨x0, x1, x2, x3, x4, x5⟩ := cells6 d0
  all_goals have HS12 := hid (HS11.out.then hs12); have HV12 := hid (HV11.out.same hs12 (by simp))
  all_goals have hpw : p < w12.heap.size := lt_of_some d0
  all_goals have D0 := hid d0
  all_goals have E4 := hid e4
  all_goals have E6 := hid e6
  all_goals have E8 := hid e8
  all_goals have E10 := hid e10
  all_goals clear d0 e4 e6 e8 e10 hs12 hv12 ho12 HS11 HV11 hH11
  all_goals obtain ⟨y40, y41, y42, y43, y44⟩ := cells5 E4.out
  all_goals have l4 : p + 1 < w12.heap.size := lt_of_some E4.out
  all_goals have m4 : p < w12.heap.size := by omega
  all_goals obtain ⟨y60, y61, y62, y63, y64⟩ := cells5 E6.out
  all_goals have l6 : p6 + 1 < w12.heap.size := lt_of_some E6.out
  all_goals have m6 : p6 < w12.heap.size := by omega
  all_goals obtain ⟨y80, y81, y82, y83, y84⟩ := cells5 E8.out
  all_goals have l8 : p8 + 1 < w12.heap.size := lt_of_some E8.out
  all_goals have m8 : p8 < w12.heap.size := by omega
  all_goals obtain ⟨y100, y101, y102, y103, y104⟩ := cells5 E10.out
  all_goals have l10 : p10 + 1 < w12.heap.size := lt_of_some E10.out
  all_goals have m10 : p10 < w12.heap.size := by omega
  all_goals go_wp2_with fail
  all_goals refine post_gen fun W13 hW13 => ?_
  all_goals have hs13 : Same [] w12 W13 := by rw [hW13]; (repeat (with_reducible first | refine Same.alloc ?_ _ | refine Same.drew ?_)); exact Same.refl _ _
  all_goals clear hW13
  all_goals refine bodyPost_ret (v := .bool true) (by simp [results, Tryd.results7, go_sem]) rfl ?_
  all_goals exact ⟨rfl, HS12.out.then hs13⟩
end Go.Proofs.YtdfeinfaljidgaaDoor
