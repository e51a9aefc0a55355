/- wealdlaw15.ListSeeks: the walk. -/
import Derived.Test.YtdfeinfaljidgaaDoorShown
import Derived.Test.YtdfeinfaljidgaaDoorSame
import Derived.Test.YtdfeinfaljidgaaDoorSeeksPlain
namespace Go.Proofs.YtdfeinfaljidgaaDoor
open Go Go.RowKit

/-- []bool. -/
def Bools (M : List Nat) (w : World) (v : Value) (bs : List Bool) : Prop := Sl M w v 1 (bs.map Value.bool)
theorem Bools.same {M D : List Nat} {w w' : World} {v : Value} {xs : List Bool} (h : Bools M w v xs) (hs : Same D w w') (hD : ∀ x, x ∈ D → x ∈ M) : Bools M w' v xs := Sl.same h hs hD
theorem Sl.len1 {M : List Nat} {w : World} {a : Option Addr} {l c : Nat} {cs : List Value} (h : Sl M w (.slice a l c) 1 cs) : l = cs.length ∧ l ≤ 140737488355328 := by
  obtain ⟨a', l', c', e, h1, _, h3, _⟩ := h
  simp only [Value.slice.injEq] at e
  obtain ⟨_, rfl, _⟩ := e
  omega
theorem Sl.one {M : List Nat} {w : World} {a : Option Addr} {l c : Nat} {cs : List Value} (h : Sl M w (.slice a l c) 1 cs) {i : Nat} {u : Value} (hi : cs[i]? = some u) : ∃ b off, a = some ⟨b, off, none⟩ ∧ w.cell? ⟨b, off + i, none⟩ = some u := by
  have h' := h
  obtain ⟨a', l', c', e, h1, _, h3, h4⟩ := h
  simp only [Value.slice.injEq] at e
  obtain ⟨rfl, rfl, rfl⟩ := e
  rcases h4 with ⟨_, h0, _⟩ | ⟨b, off, rfl, _⟩
  · have := (List.getElem?_eq_some_iff.1 hi).1; omega
  · have := Sl.cells_at h' i u hi
    rw [Addr.add_lit] at this
    exact ⟨b, off, rfl, this⟩

set_option maxHeartbeats 40000000 in
set_option maxRecDepth 100000 in
theorem ListSeeks_walk {w : World} {gv mv : Value} {gs : List UInt8} {ms : List Bool} {k : Nat} (HBy : BytesSpec) (hh : Halves w) (hg : Bytes [] w gv gs) (hm : Bools [] w mv ms) (hk : k < 65536) :
    Calls Tryd.prog 5 #[gv, mv, .int .u16 k] w fun e w' => e = .returned (.bool true) ∧ Same [] w w' := by
  obtain ⟨ga, gl, gc, rfl⟩ := hg.form
  obtain ⟨na, nl, nc, rfl⟩ := Sl.form hm
  obtain ⟨rfl, hgl⟩ : gl = gs.length ∧ gs.length ≤ 140737488355328 := by have := Sl.len1 hg; simp at this; omega
  obtain ⟨rfl, hml⟩ : nl = ms.length ∧ ms.length ≤ 140737488355328 := by have := Sl.len1 hm; simp at this; omega
  have HH := hid hh; have HG := hid hg; have HM := hid hm
  clear hh hg hm
  by_cases hbig : 10 < gs.length ∨ ms.length < gs.length
  · by_cases h1 : 10 < gs.length
    · have HB := hid hbig; clear hbig
      go_enter Tryd.func5, Tryd.ntmps5
      go_wp2_with fail
      refine (shown_any HBy HH.out).mono ?_
      rintro _ w1 ⟨rfl, hs1⟩
      have HS := hid hs1; clear hs1
      go_wp2_with fail
      go_ret
      exact ⟨rfl, HS.out⟩
    · have h2 : ms.length < gs.length := hbig.resolve_left h1
      have HB := hid hbig; clear hbig
      go_enter Tryd.func5, Tryd.ntmps5
      go_wp2_with fail
      refine (shown_any HBy HH.out).mono ?_
      rintro _ w1 ⟨rfl, hs1⟩
      have HS := hid hs1; clear hs1
      go_wp2_with fail
      go_ret
      exact ⟨rfl, HS.out⟩
  · have h1 : ¬ 10 < gs.length := fun h => hbig (.inl h)
    have h2 : ¬ ms.length < gs.length := fun h => hbig (.inr h)
    have HB := hid hbig; clear hbig
    go_enter Tryd.func5, Tryd.ntmps5
    go_wp2_with fail
    refine (shown_any HBy HH.out).mono ?_
    rintro _ w1 ⟨rfl, hs1⟩
    have HS := hid hs1; clear hs1
    go_wp2_with fail
    refine (RNew_any (t := 1) (c := 10) (by decide) (by decide) (by decide)).mono ?_
    rintro _ w2 ⟨b, b0, b1, rfl, hs2, hb, hb0, hb1, hw, hw0, hw1⟩
    have hv := rworld_new (t := 1) (c := 10) (by decide) (by decide) hb0 hb1 hw hw0 hw1
    have HV := hid hv; have HS2 := hid (HS.out.then hs2); have HBL := hid (lt_of_some hw); have HBW := hid (Nat.le_trans HS.out.size hb)
    clear hv hs2 hw0 hw1 hw hb hb0 hb1
    go_wp2_with fail
    refine wp_gen fun W hW => ?_
    have hs3 : Same [] w2 W := by rw [hW]; exact (Same.refl _ _).alloc _
    have d0 : W.heap[w2.heap.size]? = some (.cells #[.int .i64 1, .int .i64 10, .slice (some ⟨b, 0, none⟩) 89 89, .int .u64 0, .slice (some ⟨b0, 0, none⟩) 1 1, .slice (some ⟨b1, 0, none⟩) 1 1] 33 (0, 0)) := by rw [hW]; exact block_at rfl
    clear hW
    obtain ⟨p, hp⟩ : ∃ p, p = w2.heap.size := ⟨_, rfl⟩
    rw [← hp] at d0 ⊢
    have HP := hid (And.intro (show b < p by rw [hp]; exact HBL.out) (show w.heap.size ≤ p by rw [hp]; exact HS2.out.size))
    have HS3 := hid (HS2.out.then hs3); have HV3 := hid (HV.out.same hs3 (by simp)); have D0 := hid d0
    clear hs3 d0 hp HV HBL HS2
    go_loopg [10, 11, 12, 13] (gs.length + 1) (fun g kv wv av iv wr => ∃ (i : Nat) (x : WorldM), i ≤ gs.length ∧ i + g = gs.length + 1 ∧ iv = .int .i64 i ∧ kv = .int .u64 (keyTo gs i : Nat) ∧ wv = .int .i64 (firstGe (keyTo gs) k (nodesTo ms i) : Nat) ∧ av = .bool (anyTo ms i) ∧
      Same [b] W wr ∧ RWorld [] wr (.agg #[.int .i64 1, .int .i64 10, .slice (some ⟨b, 0, none⟩) 89 89, .int .u64 0, .slice (some ⟨b0, 0, none⟩) 1 1, .slice (some ⟨b1, 0, none⟩) 1 1]) x ∧ Laid 10 ms (keyTo gs) i x ∧ OkW 0 x ∧ x.mem.T = 1 ∧ x.disk = newD 1)
    case atStart => exact ⟨0, newW 1 10, by omega, by omega, rfl, by rw [keyTo_zero]; rfl, rfl, rfl, Same.refl _ _, HV3.out, laid_new (by decide) _ _, okw_new (by decide) (by decide) (by decide), rfl, rfl⟩
    case round =>
      obtain ⟨i, x, hi, hig, rfl, rfl, rfl, rfl, hs4, hv4, hlaid, hok, hT, hD⟩ := hrel
      have HIG := hid hig; have HS4 := hid hs4; have HV4 := hid hv4; have HL := hid hlaid; have HOK := hid hok; have HT := hid hT; have HD := hid hD
      have d1 := (hs4.block _ (lt_of_some D0.out) (by have := HP.out; simp; omega)).trans D0.out
      have D1 := hid d1
      clear hig hs4 hv4 hlaid hok hT hD d1
      by_cases hlt : i < gs.length
      · have g1 : i < gs.length := hlt
        obtain ⟨x0, x1, x2, x3, x4, x5⟩ := cells6 D1.out
        have hpb : p ≠ b := by have := HP.out; omega
        obtain ⟨kk, hkk⟩ : ∃ kk, kk = keyTo gs i := ⟨_, rfl⟩
        obtain ⟨g8, hg8⟩ : ∃ g8, g8 = (gs[i]).toNat := ⟨_, rfl⟩
        obtain ⟨k1, hk1⟩ : ∃ k1, k1 = kk + 1 := ⟨_, rfl⟩
        obtain ⟨nk, hnk⟩ : ∃ nk, nk = k1 + g8 := ⟨_, rfl⟩
        obtain ⟨r, hr⟩ : ∃ r, r = i + 1 := ⟨_, rfl⟩
        have hkb : nk ≤ 10000 := by have := keyTo_le gs i; have := (gs[i]).toNat_lt; omega
        have hgs := Sl.one (Bytes.same HG.out ((HS3.out.trans HS4.out) (fun y hy => .inr (by simp at hy; subst hy; exact HBW.out))) (by simp)) (i := i) (u := .int .u8 (gs[i]).toNat) (by simp [hlt])
        obtain ⟨gb, goff, rfl, q0⟩ := hgs
        rw [← hg8] at q0
        have eu1 : IntKind.u64.wrap ((kk : Int) + 1) = (k1 : Int) := u64_step (b := 1) hk1.symm (by unfold W64; omega)
        have eu2 : IntKind.u64.wrap ((k1 : Int) + (g8 : Int)) = (nk : Int) := u64_step hnk.symm (by unfold W64; omega)
        have er : (i : Int) + 1 = (r : Nat) := by omega
        have hlen := HL.out.lst.dim.len
        have hfl : ∀ f, f < 8 → field 1 r f < x.len := fun f hf => by rw [hlen]; unfold field; omega
        have hnl : next 1 i < x.len := HL.out.lst.dim.next (by omega)
        have hnr : next 1 r < x.len := HL.out.lst.dim.next (by omega)
        obtain ⟨wv0, hwv0⟩ : ∃ z, z = x.get (next 1 i) := ⟨_, rfl⟩
        have hwb : wv0 < 1000000 := by
          have h1 : wv0 = (if i = 0 then 0 else (ms.getD (i - 1) false).toNat) := by
            rw [hwv0]
            by_cases h0 : i = 0
            · subst h0
              have := HL.out.lst.head
              rw [hdD_nodes, if_pos rfl] at this
              exact this
            · rw [if_neg h0, show next 1 i = field 1 i 0 from by unfold next; rw [if_neg h0]]
              have := (chn_nodes.1 HL.out.lst.chn) (i - 1) (by omega)
              rw [show i - 1 + 1 = i from by omega, if_neg (by omega)] at this
              rw [this]; unfold link; cases ms.getD (i - 1) false <;> rfl
          rw [h1]
          split
          · omega
          · have := Bool.toNat_le (ms.getD (i - 1) false); omega
        obtain ⟨r4, hr4⟩ : ∃ z, z = 4 * r := ⟨_, rfl⟩
        obtain ⟨r2, hr2⟩ : ∃ z, z = 2 * r := ⟨_, rfl⟩
        obtain ⟨nv, hnv⟩ : ∃ z, z = wv0 + r2 := ⟨_, rfl⟩
        have e4 : (4 : Int) * (r : Int) = (r4 : Nat) := by omega
        have e2 : (2 : Int) * (r : Int) = (r2 : Nat) := by omega
        have e4' : IntKind.u64.wrap (r4 : Int) = (r4 : Int) := u64_same (by unfold W64; omega)
        have e4i : IntKind.i64.wrap (r4 : Int) = (r4 : Int) := i64_same (by omega)
        have e2i : IntKind.i64.wrap (r2 : Int) = (r2 : Int) := i64_same (by omega)
        have e2' : IntKind.u64.wrap (r2 : Int) = (r2 : Int) := u64_same (by unfold W64; omega)
        have env : IntKind.u64.wrap ((wv0 : Int) + (r2 : Int)) = (nv : Int) := u64_step hnv.symm (by unfold W64; omega)
        have eu0 : IntKind.u64.wrap (g8 : Int) = (g8 : Int) := u64_same (by unfold W64; omega)
        obtain ⟨q1, hf1, hb1', hz1, _⟩ := poke_ready HV4.out (hfl 1 (by omega))
        have hb1 := hb1' 89 rfl
        clear hb1'
        rw [← hkk]
        have HKK := hid hkk; have HG8 := hid hg8; have HK1 := hid hk1; have HNK := hid hnk; have HR := hid hr; have HLEN := hid hlen; have HFL := hid hfl; have HNL := hid hnl; have HNR := hid hnr; have HWV := hid hwv0; have HWB := hid hwb; have HR4 := hid hr4; have HR2 := hid hr2; have HNV := hid hnv
        clear hkk hg8 hk1 hnk hr hlen hfl hnl hnr hlt hwv0 hwb hr4 hr2 hnv
        go_wp2_with fail
        go_region_held2 (fun w' => w'.cell? ⟨p, 2, none⟩ = some (.slice (some ⟨b, 0, none⟩) 89 89))
          (first | exact x2 | exact (cell_set_blk hpb).trans x2)
          (first | (go_at_call 10; refine (RField_any (t := 1) (r := r) (f := 1) (by decide) (by have := HR.out; omega) (by have := HR.out; omega) (by decide)).mono ?_; rintro e w' ⟨rfl, rfl⟩))
        refine then_gen fun W5 hW5 => ?_
        obtain ⟨hvW5, hsW5⟩ := poke_done HV4.out (i := field 1 r 1) (n := nk) (HFL.out 1 (by omega)) (by unfold W64; omega) hW5
        have HVW5 := hid hvW5
        clear hW5
        have x2' := (hsW5.cell (p := ⟨p, 2, none⟩) (World.block_lt_of_cell? _ _ x2) (by simpa using hpb)).trans x2
        have HSW5 := hid (hsW5)
        clear x2 hsW5
        have x2 := x2'
        clear x2'
        clear q1 hf1 hb1 hz1 x0 x1 x3 x4 x5
        obtain ⟨q1, hf1, hb1', hz1, _⟩ := poke_ready HVW5.out (i := field 1 r 2) (by simpa using HFL.out 2 (by omega))
        have hb1 := hb1' 89 rfl
        clear hb1'
        go_wp2_with fail
        go_region_held2 (fun w' => w'.cell? ⟨p, 2, none⟩ = some (.slice (some ⟨b, 0, none⟩) 89 89))
          (first | exact x2 | exact (cell_set_blk hpb).trans x2)
          (first | (go_at_call 10; refine (RField_any (t := 1) (r := r) (f := 2) (by decide) (by have := HR.out; omega) (by have := HR.out; omega) (by decide)).mono ?_; rintro e w' ⟨rfl, rfl⟩))
        refine then_gen fun W6 hW6 => ?_
        obtain ⟨hvW6, hsW6⟩ := poke_done HVW5.out (i := field 1 r 2) (n := r4) (by simpa using HFL.out 2 (by omega)) (by unfold W64; have := HR4.out; have := HR.out; omega) hW6
        have HVW6 := hid hvW6
        clear hW6
        have x2' := (hsW6.cell (p := ⟨p, 2, none⟩) (World.block_lt_of_cell? _ _ x2) (by simpa using hpb)).trans x2
        have HSW6 := hid (HSW5.out.then hsW6)
        clear x2 hsW6
        have x2 := x2'
        clear x2'
        clear q1 hf1 hb1 hz1 HVW5 HSW5
        obtain ⟨q1, hf1, hb1', hz1, _⟩ := poke_ready HVW6.out (i := next 1 i) (by simpa using HNL.out)
        have hb1 := hb1' 89 rfl
        clear hb1'
        rw [get_put_ne (next_field (by decide) (by decide) (by have := HR.out; omega)), get_put_ne (next_field (by decide) (by decide) (by have := HR.out; omega)), ← HWV.out] at q1
        go_wp2_with fail
        apply wp_one (W := (W6.setCell ⟨b, next 1 i, none⟩ (.int .u64 (nv : Nat))).drew)
        · go_region_with (go_at_call 13; refine (RNext_any (t := 1) (r := i) (by decide) (by omega)).mono ?_; rintro e w' ⟨rfl, rfl⟩)
          all_goals exact ⟨rfl, rfl⟩
        refine then_gen fun W7 hW7 => ?_
        obtain ⟨hvW7, hsW7⟩ := poke_done HVW6.out (i := next 1 i) (n := nv) (by simpa using HNL.out) (by unfold W64; have := HNV.out; have := HWB.out; have := HR2.out; have := HR.out; omega) hW7
        have HVW7 := hid hvW7
        clear hW7
        have x2' := (hsW7.cell (p := ⟨p, 2, none⟩) (World.block_lt_of_cell? _ _ x2) (by simpa using hpb)).trans x2
        have HSW7 := hid (HSW6.out.then hsW7)
        clear x2 hsW7
        have x2 := x2'
        clear x2'
        clear q1 hf1 hb1 hz1 HVW6 HSW6
        have hms := Sl.one (Bools.same HM.out (((HS3.out.trans HS4.out) (fun y hy => .inr (by simp at hy; subst hy; exact HBW.out))).trans HSW7.out (fun y hy => .inr (by simp at hy; subst hy; exact HBW.out))) (by simp)) (i := i) (u := .bool (ms.getD i false)) (by rw [List.getElem?_map, List.getD_eq_getElem?_getD, List.getElem?_eq_getElem (by omega)]; rfl)
        obtain ⟨mb, moff, rfl, q2⟩ := hms
        obtain ⟨f0, hf0⟩ : ∃ f0, f0 = firstGe (keyTo gs) k (nodesTo ms i) := ⟨_, rfl⟩
        have hfb : f0 ≤ 1000 := by have := firstGe_le (key := keyTo gs) (k := k) (ms := ms) (i := i); omega
        rw [← hf0]
        have HF0 := hid hf0
        clear hf0
        have hmi : i < ms.length := by omega
        obtain ⟨m, hm⟩ : ∃ m, m = ms.getD i false := ⟨_, rfl⟩
        rw [← hm] at q2
        have HMM := hid hm
        clear hm
        have hkey : nk = keyTo gs (i + 1) := by rw [keyTo_succ (g := gs[i]) (List.getElem?_eq_getElem g1), HNK.out, HK1.out, HKK.out, HG8.out]
        have HKEY := hid hkey
        have hx7 : ((x.put (field 1 r 1) nk).put (field 1 r 2) r4).put (next 1 i) nv = laidRow i (keyTo gs (i + 1)) false x := by
          rw [HNV.out, HR2.out, HR4.out, HWV.out, HR.out, hkey]; rfl
        have hokx : ∀ m, OkW 0 (laidRow i (keyTo gs (i + 1)) m x) := fun m => by
          cases m
          · exact HOK.out.put.put.put
          · exact HOK.out.put.put.put.put
        clear hkey
        cases m with
        | false =>
          have HX := hid (hx7 ▸ HVW7.out)
          have HOKX := hid (hokx false)
          clear hx7 hokx HVW7
          by_cases hz : f0 = 0
          · by_cases hkn : k ≤ nk
            · go_wp2_with fail
              go_roundg (gk - 1)
              case measure => have := HIG.out; omega
              case rel => exact ⟨i + 1, laidRow i (keyTo gs (i + 1)) false x, by omega, by have := HIG.out; omega, by rw [← HR.out], by rw [← HKEY.out], by rw [firstGe_nodes, ← HF0.out, if_pos hz, ← HKEY.out, if_pos hkn, ← HR.out], by rw [anyTo_succ, ← HMM.out]; simp, HS4.out.trans HSW7.out (fun y hy => .inl hy), HX.out, HMM.out ▸ HL.out.step (by omega), HOKX.out, laidRow_T.trans HT.out, laidRow_disk.trans HD.out⟩
            · go_wp2_with fail
              go_roundg (gk - 1)
              case measure => have := HIG.out; omega
              case rel => exact ⟨i + 1, laidRow i (keyTo gs (i + 1)) false x, by omega, by have := HIG.out; omega, by rw [← HR.out], by rw [← HKEY.out], by rw [firstGe_nodes, ← HF0.out, if_pos hz, ← HKEY.out, if_neg hkn, hz], by rw [anyTo_succ, ← HMM.out]; simp, HS4.out.trans HSW7.out (fun y hy => .inl hy), HX.out, HMM.out ▸ HL.out.step (by omega), HOKX.out, laidRow_T.trans HT.out, laidRow_disk.trans HD.out⟩
          · go_wp2_with fail
            go_roundg (gk - 1)
            case measure => have := HIG.out; omega
            case rel => exact ⟨i + 1, laidRow i (keyTo gs (i + 1)) false x, by omega, by have := HIG.out; omega, by rw [← HR.out], by rw [← HKEY.out], by rw [firstGe_nodes, ← HF0.out, if_neg hz], by rw [anyTo_succ, ← HMM.out]; simp, HS4.out.trans HSW7.out (fun y hy => .inl hy), HX.out, HMM.out ▸ HL.out.step (by omega), HOKX.out, laidRow_T.trans HT.out, laidRow_disk.trans HD.out⟩
        | true =>
          have hx8 := hx7 ▸ HVW7.out
          have HNR7 := hid (show next 1 r < (laidRow i (keyTo gs (i + 1)) false x).len by rw [laidRow_len]; exact HNR.out)
          have HOKX := hid (hokx true)
          obtain ⟨q1, hf1, hb1', hz1, _⟩ := poke_ready hx8 HNR7.out
          have hb1 := hb1' 89 rfl
          clear hb1' hokx HVW7 hx7
          have HX8 := hid hx8
          clear hx8
          go_wp2_with fail
          go_region_held2 (fun w' => w'.cell? ⟨p, 2, none⟩ = some (.slice (some ⟨b, 0, none⟩) 89 89))
            (first | exact x2 | exact (cell_set_blk hpb).trans x2)
            (first | (go_at_call 13; refine (RNext_any (t := 1) (r := r) (by decide) (by have := HR.out; omega)).mono ?_; rintro e w' ⟨rfl, rfl⟩))
          refine then_gen fun W8 hW8 => ?_
          obtain ⟨hv8, hs8⟩ := poke_done HX8.out (i := next 1 r) (n := 1) HNR7.out (by decide) hW8
          have hx9 : (laidRow i (keyTo gs (i + 1)) false x).put (next 1 r) 1 = laidRow i (keyTo gs (i + 1)) true x := by rw [HR.out]; rfl
          have HX := hid (hx9 ▸ hv8)
          have HSW8 := hid (HSW7.out.then hs8)
          clear hW8 hv8 hs8 hx9 q1 hf1 hb1 hz1
          by_cases hz : f0 = 0
          · by_cases hkn : k ≤ nk
            · go_wp2_with fail
              go_roundg (gk - 1)
              case measure => have := HIG.out; omega
              case rel => exact ⟨i + 1, laidRow i (keyTo gs (i + 1)) true x, by omega, by have := HIG.out; omega, by rw [← HR.out], by rw [← HKEY.out], by rw [firstGe_nodes, ← HF0.out, if_pos hz, ← HKEY.out, if_pos hkn, ← HR.out], by rw [anyTo_succ, ← HMM.out]; simp, HS4.out.trans HSW8.out (fun y hy => .inl hy), HX.out, HMM.out ▸ HL.out.step (by omega), HOKX.out, laidRow_T.trans HT.out, laidRow_disk.trans HD.out⟩
            · go_wp2_with fail
              go_roundg (gk - 1)
              case measure => have := HIG.out; omega
              case rel => exact ⟨i + 1, laidRow i (keyTo gs (i + 1)) true x, by omega, by have := HIG.out; omega, by rw [← HR.out], by rw [← HKEY.out], by rw [firstGe_nodes, ← HF0.out, if_pos hz, ← HKEY.out, if_neg hkn, hz], by rw [anyTo_succ, ← HMM.out]; simp, HS4.out.trans HSW8.out (fun y hy => .inl hy), HX.out, HMM.out ▸ HL.out.step (by omega), HOKX.out, laidRow_T.trans HT.out, laidRow_disk.trans HD.out⟩
          · go_wp2_with fail
            go_roundg (gk - 1)
            case measure => have := HIG.out; omega
            case rel => exact ⟨i + 1, laidRow i (keyTo gs (i + 1)) true x, by omega, by have := HIG.out; omega, by rw [← HR.out], by rw [← HKEY.out], by rw [firstGe_nodes, ← HF0.out, if_neg hz], by rw [anyTo_succ, ← HMM.out]; simp, HS4.out.trans HSW8.out (fun y hy => .inl hy), HX.out, HMM.out ▸ HL.out.step (by omega), HOKX.out, laidRow_T.trans HT.out, laidRow_disk.trans HD.out⟩
      · have g1 : ¬ i < gs.length := hlt
        obtain rfl : i = gs.length := by omega
        clear hlt hi HIG
        obtain ⟨x0, x1, x2, x3, x4, x5⟩ := cells6 D1.out
        have hrun := seeks_run (k := k) HL.out (by omega)
        have hrun2 := searches_run (k := k) HL.out (by omega) HD.out
        obtain ⟨F, hF⟩ : ∃ F, F = firstGe (keyTo gs) k (nodesTo ms gs.length) := ⟨_, rfl⟩
        obtain ⟨A, hA⟩ : ∃ A, A = anyTo ms gs.length := ⟨_, rfl⟩
        obtain ⟨kf, hkf⟩ : ∃ kf, kf = keyTo gs F := ⟨_, rfl⟩
        rw [← hF, ← hkf] at hrun hrun2
        rw [← hA] at hrun2
        rw [← hF, ← hA]
        have hFb : F ≤ gs.length := by rw [hF]; exact firstGe_le
        have hHr : Halves wr := HH.out.same ((HS3.out.trans HS4.out) (fun y hy => .inr (by simp at hy; subst hy; exact HBW.out))) (by simp)
        obtain ⟨rs, hr1, hr2⟩ := hrun
        have HF := hid hF; have HA := hid hA; have HKF := hid hkf; have HFB := hid hFb; have HR1 := hid hr1; have HR2 := hid hr2; have HRUN2 := hid hrun2; have HHR := hid hHr
        clear hF hA hkf hFb hr1 hr2 hrun2 hHr
        go_wp2_with fail
        refine (alone_any (M := []) (me := 0) (n := 50) (t := 1) (kd := 25) (u := 0) (vv := 0) (wt := k) (most := 60) HBy HHR.out (by simp) HV4.out (by simp) HOK.out HT.out (by decide) (by decide) (by decide) (by unfold W64; omega) (fun h => by cases h) HR1.out HR2.out (by decide)).mono ?_
        rintro _ w5 ⟨v5, o5, rfl, hs5, hv5, ho5⟩
        obtain ⟨xa5, xl5, xc5, ya5, yl5, yc5, za5, zl5, zc5, rfl⟩ := hv5.forms
        obtain ⟨la5, ll5, lc5, rfl⟩ := ho5.forms
        have e0 := (hs5.block _ (lt_of_some D1.out) (by simp)).trans D1.out
        clear x0 x1 x2 x3 x4 x5
        obtain ⟨x0, x1, x2, x3, x4, x5⟩ := cells6 e0
        have hpw : p < w5.heap.size := lt_of_some e0
        have HV5 := hid hv5; have HS5 := hid hs5; have E0 := hid e0
        clear hv5 hs5 ho5 e0
        go_wp2_with fail
        refine calls_gen fun W6 hW6 => ?_
        have hs6 : Same [] w5 W6 := by rw [hW6]; (repeat (with_reducible first | refine Same.alloc ?_ _ | refine Same.drew ?_)); exact Same.refl _ _
        have d5 : W6.heap[w5.heap.size]? = some (.cells #[.int .i64 x.mem.T, .int .i64 x.mem.C, .slice xa5 xl5 xc5, .int .u64 x.disk.root, .slice ya5 yl5 yc5, .slice za5 zl5 zc5] 33 (0, 0)) := by rw [hW6]; exact block_old (block_at (by simp))
        have d6 : W6.heap[w5.heap.size + 1]? = some (.cells #[.int .i64 0, .bool (F != 0 && kf == k), .int .i64 F, .int .u64 0, .slice la5 ll5 lc5] 38 (0, 0)) := by rw [hW6]; exact block_at (by simp)
        clear hW6
        obtain ⟨p5, hp5⟩ : ∃ p5, p5 = w5.heap.size := ⟨_, rfl⟩
        rw [← hp5] at d5 d6 hpw ⊢
        have e0 := (hs6.block _ (lt_of_some E0.out) (by simp)).trans E0.out
        have HS6 := hid (HS5.out.then hs6); have HV6 := hid (HV5.out.same hs6 (by simp)); have HV0 := hid (HV4.out.same (HS5.out.then hs6) (by simp))
        clear x0 x1 x2 x3 x4 x5
        have D5 := hid d5; have D6 := hid d6; have E1 := hid e0
        clear hs6 HV5 E0 d5 d6 e0 hp5
        obtain ⟨z, o2, rs2, hr1, hr2, hr3⟩ := HRUN2.out
        have hHr : Halves W6 := HHR.out.same HS6.out (by simp)
        refine (alone_any (M := []) (me := 0) (n := 50) (t := 1) (kd := 8) (u := 0) (vv := 0) (wt := k) (most := 400) HBy hHr (by simp) HV0.out (by simp) HOK.out HT.out (by decide) (by decide) (by decide) (by unfold W64; omega) (fun h => by cases h) hr1 hr2 (by decide)).mono ?_
        rintro _ w7 ⟨v7, o7, rfl, hs7, hv7, ho7⟩
        obtain ⟨xa7, xl7, xc7, ya7, yl7, yc7, za7, zl7, zc7, rfl⟩ := hv7.forms
        obtain ⟨la7, ll7, lc7, rfl⟩ := ho7.forms
        have HR3 := hid hr3
        have e0 := (hs7.block _ (lt_of_some E1.out) (by simp)).trans E1.out
        have e5 := (hs7.block _ (lt_of_some D5.out) (by simp)).trans D5.out
        have e6 := (hs7.block _ (lt_of_some D6.out) (by simp)).trans D6.out
        have HS7 := hid (HS6.out.then hs7); have HV7 := hid (HV6.out.same hs7 (by simp)); have HV1 := hid (HV0.out.same hs7 (by simp))
        clear hs7 hv7 ho7 hr1 hr2 hr3 hHr HV6 HV0 E1 D5 D6
        obtain ⟨x0, x1, x2, x3, x4, x5⟩ := cells6 e0
        obtain ⟨y0, y1, y2, y3, y4, y5⟩ := cells6 e5
        obtain ⟨z0, z1, z2, z3, z4⟩ := cells5 e6
        have hpw : p < w7.heap.size := lt_of_some e0
        have hp5 : p5 < w7.heap.size := lt_of_some e5
        have hp6 : p5 + 1 < w7.heap.size := lt_of_some e6
        have E0 := hid e0; have E5 := hid e5; have E6 := hid e6
        clear e0 e5 e6
        go_wp2_with fail
        refine calls_gen fun W8 hW8 => ?_
        have hs8 : Same [] w7 W8 := by rw [hW8]; (repeat (with_reducible first | refine Same.alloc ?_ _ | refine Same.drew ?_)); exact Same.refl _ _
        have d7 : W8.heap[w7.heap.size + 1]? = some (.cells #[.int .i64 o2.err, .bool o2.is, .int .i64 o2.n, .int .u64 o2.w, .slice la7 ll7 lc7] 38 (0, 0)) := by rw [hW8]; exact block_at (by simp)
        clear hW8
        refine (RWorldSame_any (HV7.out.same hs8 (by simp)) (HV1.out.same hs8 (by simp))).mono ?_
        rintro _ w9 ⟨rfl, hs9⟩
        have hs79 := hs8.then hs9
        obtain ⟨p7, hp7⟩ : ∃ p7, p7 = w7.heap.size := ⟨_, rfl⟩
        rw [← hp7] at d7 ⊢
        have e0 := (hs79.block _ (lt_of_some E0.out) (by simp)).trans E0.out
        have e6 := (hs79.block _ (lt_of_some E6.out) (by simp)).trans E6.out
        have e7 := (hs9.block _ (lt_of_some d7) (by simp)).trans d7
        clear x0 x1 x2 x3 x4 x5 y0 y1 y2 y3 y4 y5 z0 z1 z2 z3 z4 d7
        obtain ⟨x0, x1, x2, x3, x4, x5⟩ := cells6 e0
        obtain ⟨z0, z1, z2, z3, z4⟩ := cells5 e6
        obtain ⟨y0, y1, y2, y3, y4⟩ := cells5 e7
        have HS9 := hid (HS7.out.then hs79)
        have HV9 := hid (HV1.out.same hs79 (by simp))
        clear hs8 hs9 hs79 e0 e6 e7 HV7 HV1 E0 E5 E6 hp7
        go_wp2_with fail
        obtain ⟨B, hB⟩ : ∃ B, B = (F != 0 && kf == k) := ⟨_, rfl⟩
        rw [← hB] at z1
        have hHR3 : Hid (A = false → o2.n = F ∧ o2.is = B) := hid (by rw [hB]; exact HR3.out)
        clear HR3
        have hfin : ∀ (nq : Nat), Same [] w (w9.drewN nq) := fun nq => ((HS3.out.trans HS4.out) (fun y hy => .inr (by simp at hy; subst hy; exact HBW.out))).then (HS9.out.drewN nq)
        have HFIN := hid hfin
        clear hfin
        by_cases hF0 : F = 0
        · have hBf : B = false := by rw [hB, hF0]; rfl
          rw [hBf] at z1
          clear hB
          subst hF0
          cases A with
          | true =>
            clear hHR3
            go_quiet (fail)
            go_wp2_with fail
            go_ret
            exact ⟨rfl, HFIN.out _⟩
          | false =>
            obtain ⟨hn, his⟩ := hHR3.out rfl
            rw [hn] at y2
            rw [his, hBf] at y1
            clear hn his hBf hHR3
            go_quiet (fail)
            go_wp2_with fail
            go_ret
            exact ⟨rfl, HFIN.out _⟩
        · have g0 : 0 < F := by omega
          have g1 : ¬ F < 1 := by omega
          obtain ⟨q1, _, hb1', hz1, _⟩ := poke_ready HV9.out (i := field 1 F 1) (HL.out.lst.dim.field (by omega) (by have := HFB.out; omega) (by decide))
          have hb1 := hb1' 89 rfl
          rw [HL.out.key F (by omega) HFB.out, ← HKF.out] at q1
          clear hb1'
          by_cases hkk : kf = k
          · have hBt : B = true := by rw [hB, hkk]; simp [hF0]
            rw [hBt] at z1
            clear hB
            subst hkk
            cases A with
            | true =>
              clear hHR3
              go_quiet (first | (go_at_call 10; exact quietC (RField_any (t := 1) (r := F) (f := 1) (by decide) (by omega) (by have := HFB.out; omega) (by decide))))
              go_wp2_with fail
              go_ret
              exact ⟨rfl, HFIN.out _⟩
            | false =>
              obtain ⟨hn, his⟩ := hHR3.out rfl
              rw [hn] at y2
              rw [his, hBt] at y1
              clear hn his hBt hHR3
              go_quiet (first | (go_at_call 10; exact quietC (RField_any (t := 1) (r := F) (f := 1) (by decide) (by omega) (by have := HFB.out; omega) (by decide))))
              go_wp2_with fail
              go_ret
              exact ⟨rfl, HFIN.out _⟩
          · have hBf : B = false := by rw [hB]; simp [hkk]
            rw [hBf] at z1
            clear hB
            have g3 : ((kf : Int) == (k : Int)) = false := by simp; omega
            cases A with
            | true =>
              clear hHR3
              go_quiet (first | (go_at_call 10; exact quietC (RField_any (t := 1) (r := F) (f := 1) (by decide) (by omega) (by have := HFB.out; omega) (by decide))))
              go_wp2_with fail
              go_ret
              exact ⟨rfl, HFIN.out _⟩
            | false =>
              obtain ⟨hn, his⟩ := hHR3.out rfl
              rw [hn] at y2
              rw [his, hBf] at y1
              clear hn his hBf hHR3
              go_quiet (first | (go_at_call 10; exact quietC (RField_any (t := 1) (r := F) (f := 1) (by decide) (by omega) (by have := HFB.out; omega) (by decide))))
              go_wp2_with fail
              go_ret
              exact ⟨rfl, HFIN.out _⟩
end Go.Proofs.YtdfeinfaljidgaaDoor
