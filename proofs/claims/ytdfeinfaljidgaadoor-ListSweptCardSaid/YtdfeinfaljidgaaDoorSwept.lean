/- wealdlaw15.ListSwept: the walk. -/
import Derived.Test.YtdfeinfaljidgaaDoorShown
import Derived.Test.YtdfeinfaljidgaaDoorArgs
import Derived.Test.YtdfeinfaljidgaaDoorLinked
import Derived.Test.YtdfeinfaljidgaaDoorSweptPlain
namespace Go.Proofs.YtdfeinfaljidgaaDoor
open Go Go.RowKit

set_option maxHeartbeats 40000000 in
set_option maxRecDepth 100000 in
theorem ListSwept_walk {w : World} {gv mv : Value} {es : List UInt8} {ms : List Bool} {k : Nat} (HBy : BytesSpec) (hh : Halves w) (hg : Bytes [] w gv es) (hm : Bools [] w mv ms) (_hk : k < 256) :
    Calls Tryd.prog 4 #[gv, mv, .int .u8 k] w fun e w' => e = .returned (.bool true) ∧ Same [] w w' := by
  obtain ⟨ga, gl, gc, rfl⟩ := hg.form
  obtain ⟨na, nl, nc, rfl⟩ := Sl.form hm
  obtain ⟨rfl, hgl⟩ : gl = es.length ∧ es.length ≤ 140737488355328 := by have := Sl.len1 hg; simp at this; omega
  obtain ⟨rfl, hml⟩ : nl = ms.length ∧ ms.length ≤ 140737488355328 := by have := Sl.len1 hm; simp at this; omega
  have HH := hid hh; have HG := hid hg; have HM := hid hm
  clear hh hg hm
  by_cases hbig : 10 < es.length ∨ ms.length < es.length
  · by_cases h1 : 10 < es.length
    · have HB := hid hbig; clear hbig
      go_enter Tryd.func4, Tryd.ntmps4
      go_wp2_with fail
      refine (shown_any HBy HH.out).mono ?_
      rintro _ w1 ⟨rfl, hs1⟩
      have HS := hid hs1; clear hs1
      go_wp2_with fail
      go_ret
      exact ⟨rfl, HS.out⟩
    · have h2 : ms.length < es.length := hbig.resolve_left h1
      have HB := hid hbig; clear hbig
      go_enter Tryd.func4, Tryd.ntmps4
      go_wp2_with fail
      refine (shown_any HBy HH.out).mono ?_
      rintro _ w1 ⟨rfl, hs1⟩
      have HS := hid hs1; clear hs1
      go_wp2_with fail
      go_ret
      exact ⟨rfl, HS.out⟩
  · have h1 : ¬ 10 < es.length := fun h => hbig (.inl h)
    have h2 : ¬ ms.length < es.length := fun h => hbig (.inr h)
    have HB := hid hbig; clear hbig
    obtain ⟨st, hst⟩ : ∃ st, st = k % 4 := ⟨_, rfl⟩
    have hs4 : st < 4 := by omega
    have HST := hid hst
    have em : ((k : Int)).tmod 4 = (st : Nat) := by rw [hst]; exact (Int.ofNat_tmod k 4).symm
    clear hst
    go_enter Tryd.func4, Tryd.ntmps4
    go_wp2_with fail
    refine (shown_any HBy HH.out).mono ?_
    rintro _ w1 ⟨rfl, hs1⟩
    have HS := hid hs1; clear hs1
    go_wp2_with fail
    refine (RNew_any (t := 1) (c := 10) (by decide) (by decide) (by decide)).mono ?_
    rintro _ w2 ⟨b, b0, b1, rfl, hs2, hb, hb0, hb1, hw, hw0, hw1⟩
    have hv := rworld_new (t := 1) (c := 10) (by decide) (by decide) hb0 hb1 hw hw0 hw1
    have HV := hid hv; have HS2 := hid (HS.out.then hs2); have HBL := hid (lt_of_some hw); have HBW := hid (Nat.le_trans HS.out.size hb)
    clear hv hs2 hw0 hw1 hw hb hb0 hb1
    go_wp2_with fail
    refine wp_gen fun W hW => ?_
    have hs3 : Same [] w2 W := by rw [hW]; exact (Same.refl _ _).alloc _
    have d0 : W.heap[w2.heap.size]? = some (.cells #[.int .i64 1, .int .i64 10, .slice (some ⟨b, 0, none⟩) 89 89, .int .u64 0, .slice (some ⟨b0, 0, none⟩) 1 1, .slice (some ⟨b1, 0, none⟩) 1 1] 33 (0, 0)) := by rw [hW]; exact block_at rfl
    clear hW
    obtain ⟨p, hp⟩ : ∃ p, p = w2.heap.size := ⟨_, rfl⟩
    rw [← hp] at d0 ⊢
    have HP := hid (And.intro (show b < p by rw [hp]; exact HBL.out) (show w.heap.size ≤ p by rw [hp]; exact HS2.out.size))
    have HS3 := hid (HS2.out.then hs3); have HV3 := hid (HV.out.same hs3 (by simp)); have D0 := hid d0
    clear hs3 d0 hp HV HBL HS2
    go_loopg [11, 12] (es.length + 1) (fun g sv iv wr => ∃ (i : Nat) (x : WorldM), i ≤ es.length ∧ i + g = es.length + 1 ∧ iv = .int .i64 i ∧ wr.ownsRow W.heap.size 3 1 sv (stayTo es ms st i).length (i64L (stayTo es ms st i)) ∧
      Same [b] W wr ∧ RWorld (ownL sv) wr (.agg #[.int .i64 1, .int .i64 10, .slice (some ⟨b, 0, none⟩) 89 89, .int .u64 0, .slice (some ⟨b0, 0, none⟩) 1 1, .slice (some ⟨b1, 0, none⟩) 1 1]) x ∧ LaidS 10 es ms i x ∧ OkW 0 x ∧ x.mem.T = 1 ∧ x.disk = newD 1)
    case atStart => exact ⟨0, newW 1 10, by omega, by omega, rfl, World.ownsRow_nil _ _ _ _, Same.refl _ _, HV3.out, laidS_new (by decide) _ _, okw_new (by decide) (by decide) (by decide), rfl, rfl⟩
    case round =>
      obtain ⟨i, x, hi, hig, rfl, hown, hs4, hv4, hlaid, hok, hT, hD⟩ := hrel
      obtain ⟨oa, ol, oc, rfl, hol⟩ : ∃ a l c, u11 = .slice a l c ∧ l = (stayTo es ms st i).length := by
        rcases hown.2 with ⟨rfl, h0⟩ | ⟨g, cap, cur, rfl, _⟩
        · exact ⟨_, _, _, rfl, h0.symm⟩
        · exact ⟨_, _, _, rfl, rfl⟩
      subst hol
      have hbz : W.heap.size ≤ wr.heap.size := hs4.size
      have HOWN := hid hown; have HIG := hid hig; have HS4 := hid hs4; have HV4 := hid hv4; have HL := hid hlaid; have HOK := hid hok; have HT := hid hT; have HD := hid hD; have HBZ := hid hbz
      have d1 := (hs4.block _ (lt_of_some D0.out) (by have := HP.out; simp; omega)).trans D0.out
      have D1 := hid d1
      clear hown hig hs4 hv4 hlaid hok hT hD hbz d1
      by_cases hlt : i < es.length
      · have g1 : i < es.length := hlt
        obtain ⟨x0, x1, x2, x3, x4, x5⟩ := cells6 D1.out
        have hpb : p ≠ b := by have := HP.out; omega
        obtain ⟨e8, he8⟩ : ∃ e8, e8 = (es[i]).toNat := ⟨_, rfl⟩
        have he256 : e8 < 256 := by rw [he8]; exact (es[i]).toNat_lt
        obtain ⟨r, hr⟩ : ∃ r, r = i + 1 := ⟨_, rfl⟩
        have heat : eAt es r = e8 := by rw [hr, he8]; unfold eAt; rw [show i + 1 - 1 = i from rfl, List.getD_eq_getElem?_getD, List.getElem?_eq_getElem hlt]; rfl
        obtain ⟨su, hsu⟩ : ∃ su, su = e8 % 4 := ⟨_, rfl⟩
        obtain ⟨sv, hsv⟩ : ∃ sv, sv = e8 / 4 % 4 := ⟨_, rfl⟩
        have hsame4 : Same [] w wr := (HS3.out.trans HS4.out) (fun y hy => .inr (by simp at hy; subst hy; exact HBW.out))
        obtain ⟨gb, goff, rfl, q0⟩ := Sl.one (Bytes.same HG.out hsame4 (by simp)) (i := i) (u := .int .u8 (es[i]).toNat) (by simp [hlt])
        rw [← he8] at q0
        have HSW := hid hsame4; have HE8 := hid he8; have HR := hid hr; have HEAT := hid heat; have HSU := hid hsu; have HSV := hid hsv
        have er : (i : Int) + 1 = (r : Nat) := by omega
        have e1 : ((e8 : Int)).tmod 4 = (su : Nat) := by rw [hsu]; exact (Int.ofNat_tmod e8 4).symm
        have e2 : (((e8 : Int)) / 4).tmod 4 = (sv : Nat) := by rw [hsv, show ((e8 : Int)) / 4 = ((e8 / 4 : Nat) : Int) from by omega]; exact (Int.ofNat_tmod (e8 / 4) 4).symm
        have hlen := HL.out.lst.dim.len
        have hfl : ∀ f, f < 8 → field 1 r f < x.len := fun f hf => by rw [hlen]; unfold field; omega
        have hnl : next 1 i < x.len := HL.out.lst.dim.next (by omega)
        have hnr : next 1 r < x.len := HL.out.lst.dim.next (by omega)
        obtain ⟨wv0, hwv0⟩ : ∃ z, z = x.get (next 1 i) := ⟨_, rfl⟩
        have hwb : wv0 < 1000000 := by
          rw [hwv0, led_nodes HL.out.lst]
          split
          · omega
          · unfold link; split <;> omega
        obtain ⟨r4, hr4⟩ : ∃ z, z = 4 * r := ⟨_, rfl⟩
        obtain ⟨r2, hr2⟩ : ∃ z, z = 2 * r := ⟨_, rfl⟩
        obtain ⟨rv, hrv⟩ : ∃ z, z = r * 2147483648 := ⟨_, rfl⟩
        obtain ⟨nv, hnv⟩ : ∃ z, z = wv0 + r2 := ⟨_, rfl⟩
        have e4 : (4 : Int) * (r : Int) = (r4 : Nat) := by omega
        have e22 : (2 : Int) * (r : Int) = (r2 : Nat) := by omega
        have erm : IntKind.u64.wrap ((r : Int) * 2147483648) = (rv : Int) := by rw [show (r : Int) * 2147483648 = (rv : Int) from by omega]; exact u64_same (by unfold W64; omega)
        have erw : IntKind.u64.wrap (r : Int) = (r : Int) := u64_same (by unfold W64; omega)
        have e4' : IntKind.u64.wrap (r4 : Int) = (r4 : Int) := u64_same (by unfold W64; omega)
        have e4i : IntKind.i64.wrap (r4 : Int) = (r4 : Int) := i64_same (by omega)
        have e2i : IntKind.i64.wrap (r2 : Int) = (r2 : Int) := i64_same (by omega)
        have e2' : IntKind.u64.wrap (r2 : Int) = (r2 : Int) := u64_same (by unfold W64; omega)
        have env : IntKind.u64.wrap ((wv0 : Int) + (r2 : Int)) = (nv : Int) := u64_step hnv.symm (by unfold W64; omega)
        have eus : IntKind.u64.wrap (su : Int) = (su : Int) := u64_same (by unfold W64; omega)
        have euv : IntKind.u64.wrap (sv : Int) = (sv : Int) := u64_same (by unfold W64; omega)
        have hmi : i < ms.length := by omega
        obtain ⟨m, hm⟩ : ∃ m, m = ms.getD i false := ⟨_, rfl⟩
        have HMM := hid hm
        have hbz := HBZ.out
        have hown0 := HOWN.out
        have hnb : ∀ y, y ∈ ownL (.slice oa (stayTo es ms st i).length oc) → W.heap.size ≤ y ∧ y < wr.heap.size := fun y hy => owns_lt hown0 y hy
        have hbW : b < W.heap.size := by have := HP.out; have := lt_of_some D0.out; omega
        have HNB := hid hnb; have HBW2 := hid hbW
        have HLEN := hid hlen; have HFL := hid hfl; have HNL := hid hnl; have HNR := hid hnr; have HWV := hid hwv0; have HWB := hid hwb; have HR4 := hid hr4; have HR2 := hid hr2; have HRV := hid hrv; have HNV := hid hnv
        have hxl : 1 ≤ r := by omega
        have HXL := hid hxl
        clear hsame4 he8 hr heat hsu hsv hlt hlen hfl hnl hnr hwv0 hwb hr4 hr2 hrv hnv hm hbz hown0 hnb hbW hxl x0 x1 x3 x4 x5
        by_cases hv : 128 ≤ e8
        · skip
          obtain ⟨q1, hf1, hb1', hz1, _⟩ := poke_ready HV4.out (i := field 1 r 1) (by simpa using HFL.out 1 (by omega))
          have hb1 := hb1' 89 rfl
          clear hb1'
          go_wp2_with fail
          go_region_held2 (fun w' => w'.cell? ⟨p, 2, none⟩ = some (.slice (some ⟨b, 0, none⟩) 89 89))
            (first | exact x2 | exact (cell_set_blk hpb).trans x2)
            (first | (go_at_call 10; refine (RField_any (t := 1) (r := r) (f := 1) (by decide) (by have := HR.out; omega) (by have := HR.out; omega) (by decide)).mono ?_; rintro e w' ⟨rfl, rfl⟩))
          refine then_gen fun W5 hW5 => ?_
          obtain ⟨hvW5, hsW5⟩ := poke_done HV4.out (i := field 1 r 1) (n := r2) (by simpa using HFL.out 1 (by omega)) (by unfold W64; have := HR2.out; have := HR.out; omega) hW5
          have HVW5 := hid hvW5
          have x2' := (hsW5.cell (p := ⟨p, 2, none⟩) (World.block_lt_of_cell? _ _ x2) (by simpa using hpb)).trans x2
          have HSW5 := hid (hsW5)
          clear hW5 hvW5 hsW5 x2 q1 hf1 hb1 hz1
          have x2 := x2'
          clear x2'
          obtain ⟨q1, hf1, hb1', hz1, _⟩ := poke_ready HVW5.out (i := field 1 r 1) (by simpa using HFL.out 1 (by omega))
          have hb1 := hb1' 89 rfl
          clear hb1'
          go_wp2_with fail
          go_region_held2 (fun w' => w'.cell? ⟨p, 2, none⟩ = some (.slice (some ⟨b, 0, none⟩) 89 89))
            (first | exact x2 | exact (cell_set_blk hpb).trans x2)
            (first | (go_at_call 10; refine (RField_any (t := 1) (r := r) (f := 1) (by decide) (by have := HR.out; omega) (by have := HR.out; omega) (by decide)).mono ?_; rintro e w' ⟨rfl, rfl⟩))
          refine then_gen fun W6 hW6 => ?_
          obtain ⟨hvW6, hsW6⟩ := poke_done HVW5.out (i := field 1 r 1) (n := rv) (by simpa using HFL.out 1 (by omega)) (by unfold W64; have := HRV.out; have := HR.out; omega) hW6
          have HVW6 := hid hvW6
          have x2' := (hsW6.cell (p := ⟨p, 2, none⟩) (World.block_lt_of_cell? _ _ x2) (by simpa using hpb)).trans x2
          have HSW6 := hid (HSW5.out.then hsW6)
          clear hW6 hvW6 hsW6 x2 q1 hf1 hb1 hz1
          have x2 := x2'
          clear x2'
          obtain ⟨q1, hf1, hb1', hz1, _⟩ := poke_ready HVW6.out (i := field 1 r 2) (by simpa using HFL.out 2 (by omega))
          have hb1 := hb1' 89 rfl
          clear hb1'
          go_wp2_with fail
          go_region_held2 (fun w' => w'.cell? ⟨p, 2, none⟩ = some (.slice (some ⟨b, 0, none⟩) 89 89))
            (first | exact x2 | exact (cell_set_blk hpb).trans x2)
            (first | (go_at_call 10; refine (RField_any (t := 1) (r := r) (f := 2) (by decide) (by have := HR.out; omega) (by have := HR.out; omega) (by decide)).mono ?_; rintro e w' ⟨rfl, rfl⟩))
          refine then_gen fun W7 hW7 => ?_
          obtain ⟨hvW7, hsW7⟩ := poke_done HVW6.out (i := field 1 r 2) (n := r4) (by simpa using HFL.out 2 (by omega)) (by unfold W64; have := HR4.out; have := HR.out; omega) hW7
          have HVW7 := hid hvW7
          have x2' := (hsW7.cell (p := ⟨p, 2, none⟩) (World.block_lt_of_cell? _ _ x2) (by simpa using hpb)).trans x2
          have HSW7 := hid (HSW6.out.then hsW7)
          clear hW7 hvW7 hsW7 x2 q1 hf1 hb1 hz1
          have x2 := x2'
          clear x2'
          obtain ⟨q1, hf1, hb1', hz1, _⟩ := poke_ready HVW7.out (i := field 1 r 4) (by simpa using HFL.out 4 (by omega))
          have hb1 := hb1' 89 rfl
          clear hb1'
          go_wp2_with fail
          go_region_held2 (fun w' => w'.cell? ⟨p, 2, none⟩ = some (.slice (some ⟨b, 0, none⟩) 89 89))
            (first | exact x2 | exact (cell_set_blk hpb).trans x2)
            (first | (go_at_call 10; refine (RField_any (t := 1) (r := r) (f := 4) (by decide) (by have := HR.out; omega) (by have := HR.out; omega) (by decide)).mono ?_; rintro e w' ⟨rfl, rfl⟩))
          refine then_gen fun W8 hW8 => ?_
          obtain ⟨hvW8, hsW8⟩ := poke_done HVW7.out (i := field 1 r 4) (n := su) (by simpa using HFL.out 4 (by omega)) (by unfold W64; have := HSU.out; omega) hW8
          have HVW8 := hid hvW8
          have x2' := (hsW8.cell (p := ⟨p, 2, none⟩) (World.block_lt_of_cell? _ _ x2) (by simpa using hpb)).trans x2
          have HSW8 := hid (HSW7.out.then hsW8)
          clear hW8 hvW8 hsW8 x2 q1 hf1 hb1 hz1
          have x2 := x2'
          clear x2'
          obtain ⟨q1, hf1, hb1', hz1, _⟩ := poke_ready HVW8.out (i := field 1 r 5) (by simpa using HFL.out 5 (by omega))
          have hb1 := hb1' 89 rfl
          clear hb1'
          go_wp2_with fail
          go_region_held2 (fun w' => w'.cell? ⟨p, 2, none⟩ = some (.slice (some ⟨b, 0, none⟩) 89 89))
            (first | exact x2 | exact (cell_set_blk hpb).trans x2)
            (first | (go_at_call 10; refine (RField_any (t := 1) (r := r) (f := 5) (by decide) (by have := HR.out; omega) (by have := HR.out; omega) (by decide)).mono ?_; rintro e w' ⟨rfl, rfl⟩))
          refine then_gen fun W9 hW9 => ?_
          obtain ⟨hvW9, hsW9⟩ := poke_done HVW8.out (i := field 1 r 5) (n := sv) (by simpa using HFL.out 5 (by omega)) (by unfold W64; have := HSV.out; omega) hW9
          have HVW9 := hid hvW9
          have x2' := (hsW9.cell (p := ⟨p, 2, none⟩) (World.block_lt_of_cell? _ _ x2) (by simpa using hpb)).trans x2
          have HSW9 := hid (HSW8.out.then hsW9)
          clear hW9 hvW9 hsW9 x2 q1 hf1 hb1 hz1
          have x2 := x2'
          clear x2'
          obtain ⟨q1, hf1, hb1', hz1, _⟩ := poke_ready HVW9.out (i := next 1 i) (by simpa using HNL.out)
          have hb1 := hb1' 89 rfl
          clear hb1'
          rw [get_put_ne (next_field (by decide) (by decide) HXL.out), get_put_ne (next_field (by decide) (by decide) HXL.out), get_put_ne (next_field (by decide) (by decide) HXL.out), get_put_ne (next_field (by decide) (by decide) HXL.out), get_put_ne (next_field (by decide) (by decide) HXL.out), ← HWV.out] at q1
          go_wp2_with fail
          apply wp_one (W := (W9.setCell ⟨b, next 1 i, none⟩ (.int .u64 (nv : Nat))).drew)
          · go_region_with (go_at_call 13; refine (RNext_any (t := 1) (r := i) (by decide) (by omega)).mono ?_; rintro e w' ⟨rfl, rfl⟩)
            all_goals exact ⟨rfl, rfl⟩
          refine then_gen fun W10 hW10 => ?_
          obtain ⟨hvW10, hsW10⟩ := poke_done HVW9.out (i := next 1 i) (n := nv) (by simpa using HNL.out) (by unfold W64; have := HNV.out; have := HWB.out; have := HR2.out; have := HR.out; omega) hW10
          have HVW10 := hid hvW10
          have x2' := (hsW10.cell (p := ⟨p, 2, none⟩) (World.block_lt_of_cell? _ _ x2) (by simpa using hpb)).trans x2
          have HSW10 := hid (HSW9.out.then hsW10)
          clear hW10 hvW10 hsW10 x2 q1 hf1 hb1 hz1
          have x2 := x2'
          clear x2'
          have hkk : rv = keyS es r := by
            unfold keyS vertexS
            rw [HEAT.out]
            rw [if_pos (by simpa using hv)]; exact HRV.out
          have hx10 : (((((x.put (field 1 r 1) r2).put (field 1 r 1) rv).put (field 1 r 2) r4).put (field 1 r 4) su).put (field 1 r 5) sv).put (next 1 i) nv = sweptRow es i false x := by
            rw [put_put]; exact sweptRow_eq HR.out hkk HR4.out (by unfold suS; rw [HEAT.out]; exact HSU.out) (by unfold svS; rw [HEAT.out]; exact HSV.out) (by rw [HNV.out, HWV.out, HR2.out])
          have HX10 := hid (hx10 ▸ HVW10.out)
          have hsv10 : Same [] w W10 := HSW.out.trans HSW10.out (fun y hy => .inr (by simp at hy; subst hy; exact HBW.out))
          obtain ⟨mb, moff, hma, q2⟩ := Sl.one (Bools.same HM.out hsv10 (by simp)) (i := i) (u := .bool m) (by rw [HMM.out, List.getElem?_map, List.getD_eq_getElem?_getD, List.getElem?_eq_getElem hmi]; rfl)
          subst hma
          clear hkk hx10 HVW10 hsv10
          cases m with
          | true =>
            have HNR7 := hid (show next 1 r < (sweptRow es i false x).len by rw [sweptRow_len]; exact HNR.out)
            obtain ⟨q1, hf1, hb1', hz1, _⟩ := poke_ready HX10.out (i := next 1 r) HNR7.out
            have hb1 := hb1' 89 rfl
            clear hb1'
            go_wp2_with fail
            go_region_held2 (fun w' => w'.cell? ⟨p, 2, none⟩ = some (.slice (some ⟨b, 0, none⟩) 89 89))
              (first | exact x2 | exact (cell_set_blk hpb).trans x2)
              (first | (go_at_call 13; refine (RNext_any (t := 1) (r := r) (by decide) (by have := HR.out; omega)).mono ?_; rintro e w' ⟨rfl, rfl⟩))
            refine then_gen fun W11 hW11 => ?_
            obtain ⟨hvW11, hsW11⟩ := poke_done HX10.out (i := next 1 r) (n := 1) HNR7.out (by decide) hW11
            have HVW11 := hid hvW11
            have x2' := (hsW11.cell (p := ⟨p, 2, none⟩) (World.block_lt_of_cell? _ _ x2) (by simpa using hpb)).trans x2
            have HSW11 := hid (HSW10.out.then hsW11)
            clear hW11 hvW11 hsW11 x2 q1 hf1 hb1 hz1
            have x2 := x2'
            clear x2'
            have HX := hid (sweptRow_mark HR.out ▸ HVW11.out)
            clear HVW11 HX10
            have hsv11 : Same [] w W11 := HSW.out.trans HSW11.out (fun y hy => .inr (by simp at hy; subst hy; exact HBW.out))
            obtain ⟨mb', moff', hma, q2'⟩ := Sl.one (Bools.same HM.out hsv11 (by simp)) (i := i) (u := .bool true) (by rw [List.getElem?_map, List.getElem?_eq_getElem hmi]; have := HMM.out; rw [List.getD_eq_getElem?_getD, List.getElem?_eq_getElem hmi] at this; simp at this; simp [← this])
            simp only [Option.some.injEq, Addr.mk.injEq, and_true] at hma
            obtain ⟨rfl, rfl⟩ := hma
            clear q2 hsv11
            go_wp2_with fail
            go_roundg (gk - 1)
            case measure => have := HIG.out; omega
            case rel =>
              refine ⟨i + 1, sweptRow es i true x, by omega, by have := HIG.out; omega, by rw [← HR.out], ?_, HS4.out.then HSW11.out, HX.out, HMM.out ▸ HL.out.step (by omega), HOK.out.put.put.put.put.put.put, sweptRow_T.trans HT.out, sweptRow_disk.trans HD.out⟩
              rw [stayTo_succ, if_neg (by unfold staysS; rw [show i + 1 - 1 = i from rfl, ← HMM.out]; simp), List.append_nil]
              exact owns_same HOWN.out (fun k hk => HSW11.out.block k (HNB.out k hk).2 (by have := (HNB.out k hk).1; have := HBW2.out; simp; omega))
          | false =>
            have HX := HX10
            clear HX10
            have HLL := hid (stayTo_le es ms st i)
            go_wp2_with (at_builtin; refine Still.intro ?_)
            refine Still.of ?_
            refine wpList_app_int rfl (.tmp 153) (.tmp 155) rfl W.heap.size _ (stayTo es ms st i).length (stayTo es ms st i) rfl (owns_same HOWN.out (fun k hk => (((HSW10.out.alloc _).block k (HNB.out k hk).2 (by have := (HNB.out k hk).1; have := HBW2.out; simp; omega))))) W10.heap.size 1 r rfl ?_ (by have := HLL.out; omega) (by have := HSW10.out.size; have := HBZ.out; simp; omega) ?_
            · exact cell_of_block (block_at rfl) rfl
            intro v' w' hown' hs' hv'
            have HOWN' := hid hown'; have HSA := hid hs'; have HVA := hid hv'
            clear hown' hs' hv'
            go_wp2_with fail
            go_roundg (gk - 1)
            case measure => have := HIG.out; omega
            case rel =>
              have hnotb : ∀ y, y ∈ ownL (.slice oa (stayTo es ms st i).length oc) → y ∈ [b] ∨ W.heap.size ≤ y := fun y hy => .inr (HNB.out y hy).1
              refine ⟨i + 1, sweptRow es i false x, by omega, by have := HIG.out; omega, by rw [← HR.out], ?_, (HS4.out.trans (HSW10.out.alloc _) (fun y hy => .inl hy)).trans HSA.out hnotb, ?_, HMM.out ▸ HL.out.step (by omega), HOK.out.put.put.put.put.put, sweptRow_T.trans HT.out, sweptRow_disk.trans HD.out⟩
              · rw [stayTo_succ, if_pos (by unfold staysS deadS vertexS; rw [show i + 1 - 1 = i from rfl, ← HMM.out, ← HR.out, HEAT.out]; simp; omega), List.length_append, ← HR.out]
                exact HOWN'.out
              · have g2 := (HX.out.same ((Same.refl [] _).alloc (.cells #[.int .i64 r] 3)) (by simp)).grow (M' := (W10.alloc (.cells #[.int .i64 r] 3)).heap.size :: ownL (.slice oa (stayTo es ms st i).length oc)) (fun y hy => by rcases List.mem_cons.1 hy with h | h; exact .inr (by omega); exact .inl h)
                refine (g2.same HSA.out (fun y hy => List.mem_cons_of_mem _ hy)).grow fun y hy => .inl ?_
                rcases HVA.out with e | e
                · rw [e] at hy; exact List.mem_cons_of_mem _ hy
                · rw [e] at hy; exact List.mem_cons.2 (.inl (List.mem_singleton.1 hy))
        · skip
          obtain ⟨q1, hf1, hb1', hz1, _⟩ := poke_ready HV4.out (i := field 1 r 1) (by simpa using HFL.out 1 (by omega))
          have hb1 := hb1' 89 rfl
          clear hb1'
          go_wp2_with fail
          go_region_held2 (fun w' => w'.cell? ⟨p, 2, none⟩ = some (.slice (some ⟨b, 0, none⟩) 89 89))
            (first | exact x2 | exact (cell_set_blk hpb).trans x2)
            (first | (go_at_call 10; refine (RField_any (t := 1) (r := r) (f := 1) (by decide) (by have := HR.out; omega) (by have := HR.out; omega) (by decide)).mono ?_; rintro e w' ⟨rfl, rfl⟩))
          refine then_gen fun W5 hW5 => ?_
          obtain ⟨hvW5, hsW5⟩ := poke_done HV4.out (i := field 1 r 1) (n := r2) (by simpa using HFL.out 1 (by omega)) (by unfold W64; have := HR2.out; have := HR.out; omega) hW5
          have HVW5 := hid hvW5
          have x2' := (hsW5.cell (p := ⟨p, 2, none⟩) (World.block_lt_of_cell? _ _ x2) (by simpa using hpb)).trans x2
          have HSW5 := hid (hsW5)
          clear hW5 hvW5 hsW5 x2 q1 hf1 hb1 hz1
          have x2 := x2'
          clear x2'
          obtain ⟨q1, hf1, hb1', hz1, _⟩ := poke_ready HVW5.out (i := field 1 r 2) (by simpa using HFL.out 2 (by omega))
          have hb1 := hb1' 89 rfl
          clear hb1'
          go_wp2_with fail
          go_region_held2 (fun w' => w'.cell? ⟨p, 2, none⟩ = some (.slice (some ⟨b, 0, none⟩) 89 89))
            (first | exact x2 | exact (cell_set_blk hpb).trans x2)
            (first | (go_at_call 10; refine (RField_any (t := 1) (r := r) (f := 2) (by decide) (by have := HR.out; omega) (by have := HR.out; omega) (by decide)).mono ?_; rintro e w' ⟨rfl, rfl⟩))
          refine then_gen fun W7 hW7 => ?_
          obtain ⟨hvW7, hsW7⟩ := poke_done HVW5.out (i := field 1 r 2) (n := r4) (by simpa using HFL.out 2 (by omega)) (by unfold W64; have := HR4.out; have := HR.out; omega) hW7
          have HVW7 := hid hvW7
          have x2' := (hsW7.cell (p := ⟨p, 2, none⟩) (World.block_lt_of_cell? _ _ x2) (by simpa using hpb)).trans x2
          have HSW7 := hid (HSW5.out.then hsW7)
          clear hW7 hvW7 hsW7 x2 q1 hf1 hb1 hz1
          have x2 := x2'
          clear x2'
          obtain ⟨q1, hf1, hb1', hz1, _⟩ := poke_ready HVW7.out (i := field 1 r 4) (by simpa using HFL.out 4 (by omega))
          have hb1 := hb1' 89 rfl
          clear hb1'
          go_wp2_with fail
          go_region_held2 (fun w' => w'.cell? ⟨p, 2, none⟩ = some (.slice (some ⟨b, 0, none⟩) 89 89))
            (first | exact x2 | exact (cell_set_blk hpb).trans x2)
            (first | (go_at_call 10; refine (RField_any (t := 1) (r := r) (f := 4) (by decide) (by have := HR.out; omega) (by have := HR.out; omega) (by decide)).mono ?_; rintro e w' ⟨rfl, rfl⟩))
          refine then_gen fun W8 hW8 => ?_
          obtain ⟨hvW8, hsW8⟩ := poke_done HVW7.out (i := field 1 r 4) (n := su) (by simpa using HFL.out 4 (by omega)) (by unfold W64; have := HSU.out; omega) hW8
          have HVW8 := hid hvW8
          have x2' := (hsW8.cell (p := ⟨p, 2, none⟩) (World.block_lt_of_cell? _ _ x2) (by simpa using hpb)).trans x2
          have HSW8 := hid (HSW7.out.then hsW8)
          clear hW8 hvW8 hsW8 x2 q1 hf1 hb1 hz1
          have x2 := x2'
          clear x2'
          obtain ⟨q1, hf1, hb1', hz1, _⟩ := poke_ready HVW8.out (i := field 1 r 5) (by simpa using HFL.out 5 (by omega))
          have hb1 := hb1' 89 rfl
          clear hb1'
          go_wp2_with fail
          go_region_held2 (fun w' => w'.cell? ⟨p, 2, none⟩ = some (.slice (some ⟨b, 0, none⟩) 89 89))
            (first | exact x2 | exact (cell_set_blk hpb).trans x2)
            (first | (go_at_call 10; refine (RField_any (t := 1) (r := r) (f := 5) (by decide) (by have := HR.out; omega) (by have := HR.out; omega) (by decide)).mono ?_; rintro e w' ⟨rfl, rfl⟩))
          refine then_gen fun W9 hW9 => ?_
          obtain ⟨hvW9, hsW9⟩ := poke_done HVW8.out (i := field 1 r 5) (n := sv) (by simpa using HFL.out 5 (by omega)) (by unfold W64; have := HSV.out; omega) hW9
          have HVW9 := hid hvW9
          have x2' := (hsW9.cell (p := ⟨p, 2, none⟩) (World.block_lt_of_cell? _ _ x2) (by simpa using hpb)).trans x2
          have HSW9 := hid (HSW8.out.then hsW9)
          clear hW9 hvW9 hsW9 x2 q1 hf1 hb1 hz1
          have x2 := x2'
          clear x2'
          obtain ⟨q1, hf1, hb1', hz1, _⟩ := poke_ready HVW9.out (i := next 1 i) (by simpa using HNL.out)
          have hb1 := hb1' 89 rfl
          clear hb1'
          rw [get_put_ne (next_field (by decide) (by decide) HXL.out), get_put_ne (next_field (by decide) (by decide) HXL.out), get_put_ne (next_field (by decide) (by decide) HXL.out), get_put_ne (next_field (by decide) (by decide) HXL.out), ← HWV.out] at q1
          go_wp2_with fail
          apply wp_one (W := (W9.setCell ⟨b, next 1 i, none⟩ (.int .u64 (nv : Nat))).drew)
          · go_region_with (go_at_call 13; refine (RNext_any (t := 1) (r := i) (by decide) (by omega)).mono ?_; rintro e w' ⟨rfl, rfl⟩)
            all_goals exact ⟨rfl, rfl⟩
          refine then_gen fun W10 hW10 => ?_
          obtain ⟨hvW10, hsW10⟩ := poke_done HVW9.out (i := next 1 i) (n := nv) (by simpa using HNL.out) (by unfold W64; have := HNV.out; have := HWB.out; have := HR2.out; have := HR.out; omega) hW10
          have HVW10 := hid hvW10
          have x2' := (hsW10.cell (p := ⟨p, 2, none⟩) (World.block_lt_of_cell? _ _ x2) (by simpa using hpb)).trans x2
          have HSW10 := hid (HSW9.out.then hsW10)
          clear hW10 hvW10 hsW10 x2 q1 hf1 hb1 hz1
          have x2 := x2'
          clear x2'
          have hkk : r2 = keyS es r := by
            unfold keyS vertexS
            rw [HEAT.out]
            rw [if_neg (by simpa using hv)]; exact HR2.out
          have hx10 : ((((x.put (field 1 r 1) r2).put (field 1 r 2) r4).put (field 1 r 4) su).put (field 1 r 5) sv).put (next 1 i) nv = sweptRow es i false x := by
            exact sweptRow_eq HR.out hkk HR4.out (by unfold suS; rw [HEAT.out]; exact HSU.out) (by unfold svS; rw [HEAT.out]; exact HSV.out) (by rw [HNV.out, HWV.out, HR2.out])
          have HX10 := hid (hx10 ▸ HVW10.out)
          have hsv10 : Same [] w W10 := HSW.out.trans HSW10.out (fun y hy => .inr (by simp at hy; subst hy; exact HBW.out))
          obtain ⟨mb, moff, hma, q2⟩ := Sl.one (Bools.same HM.out hsv10 (by simp)) (i := i) (u := .bool m) (by rw [HMM.out, List.getElem?_map, List.getD_eq_getElem?_getD, List.getElem?_eq_getElem hmi]; rfl)
          subst hma
          clear hkk hx10 HVW10 hsv10
          cases m with
          | true =>
            have HNR7 := hid (show next 1 r < (sweptRow es i false x).len by rw [sweptRow_len]; exact HNR.out)
            obtain ⟨q1, hf1, hb1', hz1, _⟩ := poke_ready HX10.out (i := next 1 r) HNR7.out
            have hb1 := hb1' 89 rfl
            clear hb1'
            go_wp2_with fail
            go_region_held2 (fun w' => w'.cell? ⟨p, 2, none⟩ = some (.slice (some ⟨b, 0, none⟩) 89 89))
              (first | exact x2 | exact (cell_set_blk hpb).trans x2)
              (first | (go_at_call 13; refine (RNext_any (t := 1) (r := r) (by decide) (by have := HR.out; omega)).mono ?_; rintro e w' ⟨rfl, rfl⟩))
            refine then_gen fun W11 hW11 => ?_
            obtain ⟨hvW11, hsW11⟩ := poke_done HX10.out (i := next 1 r) (n := 1) HNR7.out (by decide) hW11
            have HVW11 := hid hvW11
            have x2' := (hsW11.cell (p := ⟨p, 2, none⟩) (World.block_lt_of_cell? _ _ x2) (by simpa using hpb)).trans x2
            have HSW11 := hid (HSW10.out.then hsW11)
            clear hW11 hvW11 hsW11 x2 q1 hf1 hb1 hz1
            have x2 := x2'
            clear x2'
            have HX := hid (sweptRow_mark HR.out ▸ HVW11.out)
            clear HVW11 HX10
            have hsv11 : Same [] w W11 := HSW.out.trans HSW11.out (fun y hy => .inr (by simp at hy; subst hy; exact HBW.out))
            obtain ⟨mb', moff', hma, q2'⟩ := Sl.one (Bools.same HM.out hsv11 (by simp)) (i := i) (u := .bool true) (by rw [List.getElem?_map, List.getElem?_eq_getElem hmi]; have := HMM.out; rw [List.getD_eq_getElem?_getD, List.getElem?_eq_getElem hmi] at this; simp at this; simp [← this])
            simp only [Option.some.injEq, Addr.mk.injEq, and_true] at hma
            obtain ⟨rfl, rfl⟩ := hma
            clear q2 hsv11
            go_wp2_with fail
            go_roundg (gk - 1)
            case measure => have := HIG.out; omega
            case rel =>
              refine ⟨i + 1, sweptRow es i true x, by omega, by have := HIG.out; omega, by rw [← HR.out], ?_, HS4.out.then HSW11.out, HX.out, HMM.out ▸ HL.out.step (by omega), HOK.out.put.put.put.put.put.put, sweptRow_T.trans HT.out, sweptRow_disk.trans HD.out⟩
              rw [stayTo_succ, if_neg (by unfold staysS; rw [show i + 1 - 1 = i from rfl, ← HMM.out]; simp), List.append_nil]
              exact owns_same HOWN.out (fun k hk => HSW11.out.block k (HNB.out k hk).2 (by have := (HNB.out k hk).1; have := HBW2.out; simp; omega))
          | false =>
            have HX := HX10
            clear HX10
            have HLL := hid (stayTo_le es ms st i)
            have hdead : deadS es st (i + 1) = (su == st || sv == st) := by
              unfold deadS vertexS suS svS
              rw [← HR.out, HEAT.out, ← HSU.out, ← HSV.out]
              simp only [decide_eq_false hv, Bool.not_false, Bool.true_and]
            have HDE := hid hdead
            clear hdead
            by_cases hc1 : su = st
            · subst hc1
              go_wp2_with fail
              go_roundg (gk - 1)
              case measure => have := HIG.out; omega
              case rel =>
                refine ⟨i + 1, sweptRow es i false x, by omega, by have := HIG.out; omega, by rw [← HR.out], ?_, HS4.out.then HSW10.out, HX.out, HMM.out ▸ HL.out.step (by omega), HOK.out.put.put.put.put.put, sweptRow_T.trans HT.out, sweptRow_disk.trans HD.out⟩
                rw [stayTo_succ, if_neg (by unfold staysS; rw [HDE.out]; simp), List.append_nil]
                exact owns_same HOWN.out (fun k hk => HSW10.out.block k (HNB.out k hk).2 (by have := (HNB.out k hk).1; have := HBW2.out; simp; omega))
            · by_cases hc2 : sv = st
              · subst hc2
                go_wp2_with fail
                go_roundg (gk - 1)
                case measure => have := HIG.out; omega
                case rel =>
                  refine ⟨i + 1, sweptRow es i false x, by omega, by have := HIG.out; omega, by rw [← HR.out], ?_, HS4.out.then HSW10.out, HX.out, HMM.out ▸ HL.out.step (by omega), HOK.out.put.put.put.put.put, sweptRow_T.trans HT.out, sweptRow_disk.trans HD.out⟩
                  rw [stayTo_succ, if_neg (by unfold staysS; rw [HDE.out]; simp), List.append_nil]
                  exact owns_same HOWN.out (fun k hk => HSW10.out.block k (HNB.out k hk).2 (by have := (HNB.out k hk).1; have := HBW2.out; simp; omega))
              · have HC1 := hid hc1; have HC2 := hid hc2
                have hq1 : ((su : Int) != (st : Int)) = true := by rw [bne_iff_ne]; omega
                have hq2 : ((sv : Int) != (st : Int)) = true := by rw [bne_iff_ne]; omega
                have hq3 : ((su : Int) == (st : Int)) = false := by rw [beq_eq_false_iff_ne]; omega
                have hq4 : ((sv : Int) == (st : Int)) = false := by rw [beq_eq_false_iff_ne]; omega
                go_wp2_with (at_builtin; refine Still.intro ?_)
                refine Still.of ?_
                refine wpList_app_int rfl (.tmp 153) (.tmp 155) rfl W.heap.size _ (stayTo es ms st i).length (stayTo es ms st i) rfl (owns_same HOWN.out (fun k hk => (((HSW10.out.alloc _).block k (HNB.out k hk).2 (by have := (HNB.out k hk).1; have := HBW2.out; simp; omega))))) W10.heap.size 1 r rfl ?_ (by have := HLL.out; omega) (by have := HSW10.out.size; have := HBZ.out; simp; omega) ?_
                · exact cell_of_block (block_at rfl) rfl
                intro v' w' hown' hs' hv'
                have HOWN' := hid hown'; have HSA := hid hs'; have HVA := hid hv'
                clear hown' hs' hv'
                go_wp2_with fail
                go_roundg (gk - 1)
                case measure => have := HIG.out; omega
                case rel =>
                  have hnotb : ∀ y, y ∈ ownL (.slice oa (stayTo es ms st i).length oc) → y ∈ [b] ∨ W.heap.size ≤ y := fun y hy => .inr (HNB.out y hy).1
                  refine ⟨i + 1, sweptRow es i false x, by omega, by have := HIG.out; omega, by rw [← HR.out], ?_, (HS4.out.trans (HSW10.out.alloc _) (fun y hy => .inl hy)).trans HSA.out hnotb, ?_, HMM.out ▸ HL.out.step (by omega), HOK.out.put.put.put.put.put, sweptRow_T.trans HT.out, sweptRow_disk.trans HD.out⟩
                  · rw [stayTo_succ, if_pos (by unfold staysS; rw [show i + 1 - 1 = i from rfl, ← HMM.out, HDE.out]; simp [HC1.out, HC2.out]), List.length_append, ← HR.out]
                    exact HOWN'.out
                  · have g2 := (HX.out.same ((Same.refl [] _).alloc (.cells #[.int .i64 r] 3)) (by simp)).grow (M' := (W10.alloc (.cells #[.int .i64 r] 3)).heap.size :: ownL (.slice oa (stayTo es ms st i).length oc)) (fun y hy => by rcases List.mem_cons.1 hy with h | h; exact .inr (by omega); exact .inl h)
                    refine (g2.same HSA.out (fun y hy => List.mem_cons_of_mem _ hy)).grow fun y hy => .inl ?_
                    rcases HVA.out with e | e
                    · rw [e] at hy; exact List.mem_cons_of_mem _ hy
                    · rw [e] at hy; exact List.mem_cons.2 (.inl (List.mem_singleton.1 hy))
      · have g1 : ¬ i < es.length := hlt
        obtain rfl : i = es.length := by omega
        clear hlt hi HIG
        obtain ⟨x0, x1, x2, x3, x4, x5⟩ := cells6 D1.out
        obtain ⟨z, rs, hr1, hr2, hr3, hr4⟩ := sweeps_run (st := st) HL.out (by omega) HD.out
        obtain ⟨S, hS⟩ : ∃ S, S = stayTo es ms st es.length := ⟨_, rfl⟩
        have hHr : Halves wr := HH.out.same ((HS3.out.trans HS4.out) (fun y hy => .inr (by simp at hy; subst hy; exact HBW.out))) (by simp)
        have hMM : ∀ k, k ∈ ownL (.slice oa (stayTo es ms st es.length).length oc) → k < wr.heap.size := fun k hk => (owns_lt HOWN.out k hk).2
        have hGM : 0 ∉ ownL (.slice oa (stayTo es ms st es.length).length oc) := fun hk => by have := (owns_lt HOWN.out _ hk).1; have := HH.out.lt; have := HS3.out.size; omega
        have HR1 := hid hr1; have HR2 := hid hr2; have HR3 := hid hr3; have HR4 := hid hr4; have HHR := hid hHr; have HMM := hid hMM; have HGM := hid hGM
        rw [← hS]
        have HSS := hid hS
        clear hr1 hr2 hr3 hr4 hHr hMM hGM hS
        go_wp2_with fail
        refine (alone_any (M := ownL (.slice oa (stayTo es ms st es.length).length oc)) (me := 0) (n := 50) (t := 1) (kd := 10) (u := 0) (vv := 0) (wt := st) (most := 400) HBy HHR.out HGM.out HV4.out HMM.out HOK.out HT.out (by decide) (by decide) (by decide) (by unfold W64; omega) (fun h => by cases h) HR1.out HR2.out (by decide)).mono ?_
        rintro _ w5 ⟨v5, o5, rfl, hs5, hv5, ho5⟩
        obtain ⟨xa5, xl5, xc5, ya5, yl5, yc5, za5, zl5, zc5, rfl⟩ := hv5.forms
        obtain ⟨la5, ll5, lc5, rfl⟩ := ho5.forms
        have HV5 := hid hv5; have HS5 := hid hs5
        clear hv5 hs5 ho5 x0 x1 x2 x3 x4 x5
        have hTz : z.mem.T = 1 := (runW_mem HR1.out).1.trans HT.out
        have hCz : z.mem.C = 10 := (runW_mem HR1.out).2.1.trans HV4.out.words.2.1.symm
        have hlenz : z.len = 89 := HR3.out.dim.len
        have HLZ := hid hlenz
        clear hlenz
        go_wp2_with fail
        refine calls_gen fun W6 hW6 => ?_
        have hs6 : Same [] w5 W6 := by rw [hW6]; (repeat (with_reducible first | refine Same.alloc ?_ _ | refine Same.drew ?_)); exact Same.refl _ _
        have d5 : W6.heap[w5.heap.size]? = some (.cells #[.int .i64 1, .int .i64 10, .slice xa5 xl5 xc5, .int .u64 z.disk.root, .slice ya5 yl5 yc5, .slice za5 zl5 zc5] 33 (0, 0)) := by rw [hW6]; exact block_old (block_at (by simp))
        clear hW6
        obtain ⟨p5, hp5⟩ : ∃ p5, p5 = w5.heap.size := ⟨_, rfl⟩
        rw [← hp5] at d5 ⊢
        have HV6 := hid (HV5.out.same hs6 (by simp)); have HS6 := hid (HS5.out.then hs6); have D5 := hid d5
        clear hs6 d5 HV5 HS5 hp5 hTz hCz
        refine (Linked_any (t := 1) (C := 10) (M := []) (HV6.out.words.2.2.2.2.grow (fun y hy => by simp at hy)) HR3.out (fun k hk => by simp at hk)).mono ?_
        rintro _ w7 ⟨v7, rfl, hs7, hi7⟩
        rw [show recs (sweptL (deadS es st) (nodesTo ms es.length)) = S from (stayTo_swept es ms st es.length).trans HSS.out.symm] at hi7
        obtain ⟨la, ll, lc, rfl⟩ := hi7.form
        obtain ⟨rfl, hatl⟩ := hi7.at
        have his := own_ints (M := []) HOWN.out (by have := stayTo_le es ms st es.length; omega) (fun k hk => by simp at hk)
        rw [← HSS.out] at his
        have HI7 := hid hi7; have HIS := hid (his.same (HS6.out.then hs7) (by simp)); have HV7 := hid (HV6.out.same hs7 (by simp)); have HS7 := hid (HS6.out.then hs7)
        have D7 := hid ((hs7.block _ (lt_of_some D5.out) (by simp)).trans D5.out)
        have HSL := hid (show S.length ≤ 10 by rw [HSS.out]; have := stayTo_le es ms st es.length; omega)
        clear hs7 hi7 his hatl HV6 HS6 D5
        go_wp2_with fail
        go_loopg [21, 22] (es.length + 2) (fun g av rv wr' => ∃ r : Nat, 1 ≤ r ∧ r ≤ es.length + 1 ∧ r + g = es.length + 3 ∧ rv = .int .i64 r ∧ av = .int .i64 (stayTo es ms st (r - 1)).length ∧ Same [] w7 wr')
        case atStart => exact ⟨1, by omega, by omega, by omega, rfl, rfl, Same.refl _ _⟩
        case round =>
          obtain ⟨r, hr1, hr2, hrg, rfl, rfl, hs8⟩ := hrel
          have HRG := hid hrg; have HS8 := hid hs8
          have d8 := (hs8.block _ (lt_of_some D7.out) (by simp)).trans D7.out
          obtain ⟨x0, x1, x2, x3, x4, x5⟩ := cells6 d8
          clear hrg hs8 d8
          by_cases hlt : r ≤ es.length
          · have g2 : r ≤ es.length := hlt
            have hv8 := HV7.out.same HS8.out (by simp)
            obtain ⟨b8, off8, rfl, _, _, _, hc8⟩ := hv8.at (by have := HLZ.out; omega)
            have q0 := hc8 (field 1 r 2) (by have := HLZ.out; unfold field; omega)
            obtain ⟨_, _, _, hml8, hu8⟩ := hv8.words
            have hxl : xl5 = 89 := by rw [hml8]; exact HLZ.out
            subst hxl
            obtain ⟨fl, hfl⟩ : ∃ fl, fl = z.get (field 1 r 2) := ⟨_, rfl⟩
            rw [← hfl] at q0
            have hflt : fl < W64 := by
              rw [hfl]
              have hi : field 1 r 2 < z.mem.word.length := by have := HLZ.out; unfold WorldM.len at this; unfold field; omega
              simp only [WorldM.get, List.getD_eq_getElem?_getD, List.getElem?_eq_getElem hi, Option.getD_some]
              exact hu8.2 _ (List.getElem_mem hi)
            have hhas : hasBit fl 2 = !staysS es ms st r := by rw [hfl]; exact HR4.out r hr1 hlt
            obtain ⟨at_, hat⟩ : ∃ z, z = (stayTo es ms st (r - 1)).length := ⟨_, rfl⟩
            have hiff := stayTo_at (es := es) (ms := ms) (st := st) (i := r - 1) (n := es.length) (by omega)
            rw [← hat, ← HSS.out, show r - 1 + 1 = r from by omega] at hiff
            rw [← hat]
            have hnx : (stayTo es ms st r).length = at_ + (if staysS es ms st r then 1 else 0) := by
              have := stayTo_succ es ms st (r - 1)
              rw [show r - 1 + 1 = r from by omega] at this
              rw [this, List.length_append, ← hat]
              split <;> rfl
            have hb1 : ((field 1 r 2 : Nat) : Int) < 89 := by unfold field; omega
            have hz1 : (0 : Int) ≤ ((field 1 r 2 : Nat) : Int) := by omega
            have HFLT := hid hflt; have HHAS := hid hhas; have HNX := hid hnx
            clear hv8 hc8 hml8 hu8 hfl hflt hhas hat hnx hlt
            have HI8 := HI7.out.same HS8.out (by simp)
            have HIS8 := HIS.out.same HS8.out (by simp)
            by_cases hst : staysS es ms st r = true
            · have hsat := hiff.2 hst
              obtain ⟨lb, lo, rfl, q1⟩ := HI8.at.2 at_ _ hsat
              obtain ⟨sb, so, rfl, q2⟩ := HIS8.at.2 at_ _ hsat
              have g3 : at_ < S.length := (List.getElem?_eq_some_iff.1 hsat).1
              have HH2 := hid (show hasBit fl 2 = false by rw [HHAS.out, hst]; rfl)
              have HNX2 := hid (show (stayTo es ms st r).length = at_ + 1 by rw [HNX.out, if_pos hst])
              clear hsat hiff HI8 HIS8 hst
              go_wp2_with fail
              go_quiet (first | (go_at_call 10; exact quietC (RField_any (t := 1) (r := r) (f := 2) (by decide) hr1 (by omega) (by decide))))
              go_wp2_with fail
              refine (RHas_any HFLT.out).mono ?_
              rintro _ _ ⟨rfl, rfl⟩
              rw [HH2.out]
              go_wp2_with fail
              go_roundg (gk - 1)
              case measure => have := HRG.out; omega
              case rel => exact ⟨r + 1, by omega, by omega, by have := HRG.out; omega, by simp, by rw [show r + 1 - 1 = r from rfl, HNX2.out, show wrap64 ((at_ : Int) + 1) = ((at_ + 1 : Nat) : Int) from by have := HSL.out; simp only [wrap64]; omega], HS8.out.drewN _⟩
            · have hno : S[at_]? ≠ some (r : Int) := fun h => hst (hiff.1 h)
              have HH2 := hid (show hasBit fl 2 = true by rw [HHAS.out, show staysS es ms st r = false from by simpa using hst]; rfl)
              have HNX2 := hid (show (stayTo es ms st r).length = at_ by rw [HNX.out, if_neg hst]; rfl)
              by_cases g3 : at_ < S.length
              · obtain ⟨q, hq⟩ : ∃ q, S[at_]? = some q := ⟨_, List.getElem?_eq_getElem g3⟩
                obtain ⟨lb, lo, rfl, q1⟩ := HI8.at.2 at_ _ hq
                have hqr : (q == (r : Int)) = false := by rw [beq_eq_false_iff_ne]; intro e; exact hno (by rw [hq, e])
                clear hq hno hiff HI8 HIS8 hst
                go_wp2_with fail
                go_quiet (first | (go_at_call 10; exact quietC (RField_any (t := 1) (r := r) (f := 2) (by decide) hr1 (by omega) (by decide))))
                go_wp2_with fail
                refine (RHas_any HFLT.out).mono ?_
                rintro _ _ ⟨rfl, rfl⟩
                rw [HH2.out]
                go_wp2_with fail
                go_roundg (gk - 1)
                case measure => have := HRG.out; omega
                case rel => exact ⟨r + 1, by omega, by omega, by have := HRG.out; omega, by simp, by rw [show r + 1 - 1 = r from rfl, HNX2.out], HS8.out.drewN _⟩
              · clear hno hiff HI8 HIS8 hst
                go_wp2_with fail
                go_quiet (first | (go_at_call 10; exact quietC (RField_any (t := 1) (r := r) (f := 2) (by decide) hr1 (by omega) (by decide))))
                go_wp2_with fail
                refine (RHas_any HFLT.out).mono ?_
                rintro _ _ ⟨rfl, rfl⟩
                rw [HH2.out]
                go_wp2_with fail
                go_roundg (gk - 1)
                case measure => have := HRG.out; omega
                case rel => exact ⟨r + 1, by omega, by omega, by have := HRG.out; omega, by simp, by rw [show r + 1 - 1 = r from rfl, HNX2.out], HS8.out.drewN _⟩
          · have g2 : ¬ r ≤ es.length := hlt
            have hre : r - 1 = es.length := by omega
            rw [hre, ← HSS.out]
            clear hlt hre
            go_wp2_with fail
            go_ret
            exact ⟨rfl, ((HS3.out.trans HS4.out) (fun y hy => .inr (by simp at hy; subst hy; exact HBW.out))).then (HS7.out.then HS8.out)⟩
end Go.Proofs.YtdfeinfaljidgaaDoor
