/- wealdlaw15.alone: a world behind an operation that steps alone. -/
import Derived.Test.YtdfeinfaljidgaaDoorPlay
import Derived.Test.YtdfeinfaljidgaaDoorGrow
import Derived.Deep.LoopGhost
namespace Go.Proofs.YtdfeinfaljidgaaDoor
open Go Go.RowKit

theorem info_results : (Tryd.prog.info? 77).map (fun i => (i.zero, i.size, i.bytes)) = some (some (.agg #[.int .u64 0, .slice none 0 0, .bool false]), 3, 40) := by kernel_rfl
@[go_sem] theorem und_results : Tryd.prog.underlying 71 = some (.slice 77) := by kernel_rfl

/-- A log that is kept: all results without bytes. -/
def logOf (log : List Res) : List (Res × Value) := log.map fun r => (r, .slice none 0 0)
def Quiet (log : List Res) : Prop := ∀ r, r ∈ log → r.n < W64 ∧ r.b = [] ∧ r.fail = false

theorem own_rlog {base : Nat} {w : World} {v : Value} {log : List Res} {M : List Nat} (hown : w.ownsRow base 77 3 v log.length (resCells (logOf log))) (hl : log.length ≤ 1000000) (hq : Quiet log) (hM : ∀ k, k ∈ M → k < base) : RLog M w v log := by
  have hlen : (logOf log).length = log.length := by simp [logOf]
  refine ⟨logOf log, by simp [logOf, Function.comp_def], ?_, fun p hp => ?_⟩
  · rcases hown.2 with ⟨rfl, h0⟩ | ⟨g, cap, cur, rfl, hbg, hg, hnc, hcm, hcs, htake⟩
    · have : log = [] := List.eq_nil_of_length_eq_zero h0
      subst this
      exact Sl.nil _ _ _
    · refine ⟨_, _, _, rfl, by rw [resCells_length, hlen], hnc, by omega, .inr ⟨g, 0, rfl, fun hm => by have := hM _ hm; omega, _, _, _, hg, fun i hi => ?_⟩⟩
      rw [Nat.zero_add, ← htake, List.getElem?_take, if_pos, Array.getElem?_toList]
      rw [resCells_length, hlen] at hi; exact hi
  · obtain ⟨r, hr, rfl⟩ := List.mem_map.1 hp
    obtain ⟨h1, h2, _⟩ := hq r hr
    exact ⟨by rw [h2]; exact Bytes.nil _ _, h1⟩
theorem resCells_snoc (log : List Res) (r : Res) : resCells (logOf (log ++ [r])) = resCells (logOf log) ++ [.int .u64 (r.n : Nat), .slice none 0 0, .bool r.fail] := by
  simp [resCells, logOf]
theorem Quiet.snoc {log : List Res} {r : Res} (h : Quiet log) (hr : r.n < W64 ∧ r.b = [] ∧ r.fail = false) : Quiet (log ++ [r]) := fun x hx => by
  rcases List.mem_append.1 hx with hx | hx
  · exact h x hx
  · simp only [List.mem_singleton] at hx; subst hx; exact hr

theorem resid_nil {α : Type} (p : Prog α) : resid p [] = some p := by cases p <;> rfl
theorem worldStep_T (me : Nat) (x : WorldM) (a : Acc) : (worldStep me x a).1.mem.T = x.mem.T := by unfold worldStep; split; exact wordsM_T _ _; rfl
/-- How alone stands at the head of a round: hz: the first of its own blocks. -/
structure AloneAt (M : List Nat) (w : World) (me t : Nat) (P : Prog OutM) (o : OutM) (z : WorldM) (rs : List Res) (kd : Int) (u vv wt : Nat) (g : Nat) (lv iv : Value) (wr : World) (x : WorldM) (p : Prog OutM) (pre post : List Res) (wv v0 v1 : Value) : Prop where
  same : Same [] w wr
  run : runW me p x = some (o, z, post)
  res : resid P pre = some p
  iv : iv = .int .i64 (pre.length : Nat)
  len : pre.length + post.length = rs.length
  g : post.length < g
  quiet : Quiet pre
  ok : OkW me x
  T : x.mem.T = t
  own : wr.ownsRow (w.heap.size + 1 + 1 + 1 + 1) 77 3 lv pre.length (resCells (logOf pre))
  b0 : wr.heap[w.heap.size]? = some (.cells #[.int .i64 x.mem.T, .int .i64 x.mem.C, wv, .int .u64 x.disk.root, v0, v1] 33 (0, 0))
  b1 : wr.heap[w.heap.size + 1]? = some (.cells #[.int .i64 kd, .int .i64 u, .int .i64 vv, .int .u64 wt] 42 (0, 0))
  b2 : wr.heap[w.heap.size + 1 + 1]? = some (.cells #[.int .i64 0, .int .i64 0, .slice none 0 0, .int .u64 0, .slice none 0 0, .slice none 0 0] 33 (0, 0))
  b3 : wr.heap[w.heap.size + 1 + 1 + 1]? = some (.cells outZero 38 (0, 0))
  w : RWorld (w.heap.size :: (w.heap.size + 1 + 1) :: (w.heap.size + 1 + 1 + 1) :: (ownL lv ++ M)) wr (.agg #[.int .i64 x.mem.T, .int .i64 x.mem.C, wv, .int .u64 x.disk.root, v0, v1]) x

set_option maxHeartbeats 2000000 in
set_option maxRecDepth 100000 in
theorem alone_any {M : List Nat} {w : World} {v : Value} {x z : WorldM} {me most t n : Nat} {kd : Int} {u vv wt : Nat} {o : OutM} {rs : List Res} (HBy : BytesSpec) (hh : Halves w) (h0 : 0 ∉ M) (hv : RWorld M w v x) (hM : ∀ k, k ∈ M → k < w.heap.size) (hok : OkW me x) (hT : x.mem.T = t) (ht : t ≤ 64)
    (hu : u ≤ 1048575) (hvv : vv ≤ 1048575) (hw : wt < W64) (hw2 : kd = 24 → wt ≤ 1048575) (hrun : runW me (listP n t { kind := kd, u := u, v := vv, w := wt }) x = some (o, z, rs)) (hmost : rs.length ≤ most) (hsm : most ≤ 100000) :
    Calls Tryd.prog 9 #[v, .int .i64 me, .agg #[.int .i64 kd, .int .i64 u, .int .i64 vv, .int .u64 wt], .int .i64 most] w fun e w' =>
      ∃ v' ov, e = .returned (.tuple #[v', ov, .bool true]) ∧ Same [] w w' ∧ RWorld M w' v' z ∧ ROut M w' ov o := by
  obtain ⟨wv, v0, v1, rfl, hwm, hr0, hr1, hroot⟩ := hv
  obtain ⟨ma, ml, mc, rfl⟩ := hwm.form
  obtain ⟨ra, rl, rc, rfl⟩ : ∃ a l c, v0 = .slice a l c := by obtain ⟨_, _, h, _⟩ := hr0; exact h.form
  obtain ⟨sa, sl, sc, rfl⟩ : ∃ a l c, v1 = .slice a l c := by obtain ⟨_, _, h, _⟩ := hr1; exact h.form
  have HV : Hid (RWorld M w _ x) := hid ⟨_, _, _, rfl, hwm, hr0, hr1, hroot⟩
  have HH := hid hh; have H0 := hid h0; have HM := hid hM; have HOK := hid hok; have HT := hid hT; have HW := hid hw; have HW2 := hid hw2; have HRUN := hid hrun; have HMO := hid hmost
  clear hwm hr0 hr1 hroot hh h0 hM hok hT hw hw2 hrun hmost
  go_enter Tryd.func9, Tryd.ntmps9
  go_wp2_with fail
  refine wp_gen fun W hW => ?_
  have hsame : Same [] w W := by rw [hW]; (repeat refine Same.alloc ?_ _); exact Same.refl _ _
  have hat : AloneAt M w me t (listP n t { kind := kd, u := u, v := vv, w := wt }) o z rs kd u vv wt (rs.length + 1) (.slice none 0 0) (.int .i64 0) W x (listP n t { kind := kd, u := u, v := vv, w := wt }) [] rs (.slice ma ml mc) (.slice ra rl rc) (.slice sa sl sc) :=
    { same := hsame, run := HRUN.out, res := resid_nil _, iv := rfl, len := by simp, g := by omega, quiet := fun r hr => by simp at hr, ok := HOK.out, T := HT.out, own := World.ownsRow_nil _ _ _ _
      b0 := by rw [hW]; exact block_old (block_old (block_old (block_new _ _)))
      b1 := by rw [hW]; exact block_old (block_old (block_at (by simp)))
      b2 := by rw [hW]; exact block_old (block_at (by simp))
      b3 := by rw [hW]; exact block_at (by simp)
      w := (HV.out.grow (fun k hk => by simp [ownL_nil] at hk; rcases hk with h | h | h | h <;> first | exact .inl h | (right; omega))).same hsame (by simp) }
  have HAT := hid hat
  clear hW hat hsame HRUN HOK HT HV
  go_loopg [11, 12] (rs.length + 1) (fun g lv iv wr => ∃ x p pre post wv v0 v1, AloneAt M w me t (listP n t { kind := kd, u := u, v := vv, w := wt }) o z rs kd u vv wt g lv iv wr x p pre post wv v0 v1)
  case atStart => exact ⟨_, _, _, _, _, _, _, HAT.out⟩
  case round =>
    clear HAT
    obtain ⟨x, p, pre, post, wv, v0, v1, hat⟩ := hrel
    obtain ⟨ma, ml, mc, rfl⟩ : ∃ a l c, wv = .slice a l c := by obtain ⟨_, _, _, e, h, _⟩ := hat.w; simp only [Value.agg.injEq, Array.mk.injEq, List.cons.injEq] at e; obtain ⟨_, _, rfl, _⟩ := e; exact h.form
    obtain ⟨ra, rl, rc, rfl⟩ : ∃ a l c, v0 = .slice a l c := by obtain ⟨_, _, _, e, _, ⟨_, _, h, _⟩, _⟩ := hat.w; simp only [Value.agg.injEq, Array.mk.injEq, List.cons.injEq] at e; obtain ⟨_, _, _, _, rfl, _⟩ := e; exact h.form
    obtain ⟨sa, sl, sc, rfl⟩ : ∃ a l c, v1 = .slice a l c := by obtain ⟨_, _, _, e, _, _, ⟨_, _, h, _⟩, _⟩ := hat.w; simp only [Value.agg.injEq, Array.mk.injEq, List.cons.injEq] at e; obtain ⟨_, _, _, _, _, rfl, _⟩ := e; exact h.form
    have hiv := hat.iv
    subst hiv
    obtain ⟨x0, x1, x2, x3, x4, x5⟩ := cells6 hat.b0
    obtain ⟨o0, o1, o2, o3⟩ := cells4 hat.b1
    have glt : pre.length ≤ most := by have := hat.len; have := HMO.out; omega
    have HAT := hid hat
    clear hat
    rw [show x.mem.T = (t : Int) from HAT.out.T] at x0
    go_wp2_with fail
    have hH : Halves wr := HH.out.same HAT.out.same (by simp)
    have h0' : 0 ∉ w.heap.size :: (w.heap.size + 1 + 1) :: (w.heap.size + 1 + 1 + 1) :: M := fun hm => by
      have hl := HH.out.lt
      rcases List.mem_cons.1 hm with h | hm
      · omega
      rcases List.mem_cons.1 hm with h | hm
      · omega
      rcases List.mem_cons.1 hm with h | hm
      · omega
      · exact H0.out hm
    have hM0 : ∀ k, k ∈ w.heap.size :: (w.heap.size + 1 + 1) :: (w.heap.size + 1 + 1 + 1) :: M → k < w.heap.size + 1 + 1 + 1 + 1 := fun k hk => by
      simp at hk; rcases hk with h | h | h | h <;> first | omega | (have := HM.out k h; omega)
    have hM1 : ∀ k, k ∈ w.heap.size :: (w.heap.size + 1 + 1) :: (w.heap.size + 1 + 1 + 1) :: M → k < wr.heap.size := fun k hk => by
      have := hM0 k hk; have := lt_of_some HAT.out.b3; omega
    have hlg : RLog (w.heap.size :: (w.heap.size + 1 + 1) :: (w.heap.size + 1 + 1 + 1) :: M) wr _ pre := own_rlog HAT.out.own (by have := HAT.out.len; have := HMO.out; omega) HAT.out.quiet hM0
    cases p with
    | stuck => exact absurd HAT.out.run (by simp [runW])
    | ret o' =>
      refine list_Next_any (log := pre) HBy ht hu hvv HW.out HW2.out hH h0' hM1 hlg (replay_ret HAT.out.res) ?_ (fun _ _ _ _ _ _ hf => hf.elim)
      intro oo s w1 ov hs ho hk
      subst hk
      have hrun := HAT.out.run
      simp only [runW, Option.some.injEq, Prod.mk.injEq] at hrun
      obtain ⟨ho2, hxz, _⟩ := hrun
      obtain ⟨lv', rfl, hl, hr⟩ := ho
      obtain ⟨oa, ol, oc, rfl⟩ := hl.form
      have c0 := (hs.block _ (lt_of_some HAT.out.b0) (by simp)).trans HAT.out.b0
      have c2 := (hs.block _ (lt_of_some HAT.out.b2) (by simp)).trans HAT.out.b2
      have c3 := (hs.block _ (lt_of_some HAT.out.b3) (by simp)).trans HAT.out.b3
      have HX := hid hxz; have HO := hid ho2; have HL := hid hl; have HR := hid hr; have HS := hid hs
      have C0 := hid c0; have C2 := hid c2; have C3 := hid c3
      have l3 : w.heap.size + 1 + 1 + 1 < w1.heap.size := lt_of_some c3
      clear hxz ho2 hl hr hs hlg hM1 hM0 h0' hH x0 x1 x2 x3 x4 x5 o0 o1 o2 o3 c0 c2 c3
      unfold accZero
      go_wp2_with fail
      refine wp_gen fun W2 hW2 => ?_
      have s2 : Same [] w1 W2 := by rw [hW2]; (repeat refine Same.alloc ?_ _); exact Same.refl _ _
      have e5 : W2.heap[w1.heap.size + 1]? = some (.cells #[.int .i64 oo.err, .bool oo.is, .int .i64 oo.n, .int .u64 oo.w, .slice oa ol oc] 38 (0, 0)) := by rw [hW2]; exact block_at (by simp)
      clear hW2
      have e0 := (s2.block _ (lt_of_some C0.out) (by simp)).trans C0.out
      have e2 := (s2.block _ (lt_of_some C2.out) (by simp)).trans C2.out
      have e3 := (s2.block _ (lt_of_some C3.out) (by simp)).trans C3.out
      have g2 := fun o => frozen_of_block (o := o) e2
      have g3 := fun o => frozen_of_block (o := o) e3
      obtain ⟨x0, x1, x2, x3, x4, x5⟩ := cells6 e0
      obtain ⟨y0, y1, y2, y3, y4, y5⟩ := cells6 e2
      obtain ⟨z0, z1, z2, z3, z4⟩ := cells5 e3
      obtain ⟨u0, u1, u2, u3, u4⟩ := cells5 e5
      have E2 := hid e2; have E3 := hid e3; have S2 := hid s2
      have n1 : ¬ w1.heap.size + 1 = w.heap.size + 1 + 1 := by omega
      have n2 : ¬ w1.heap.size + 1 = w.heap.size + 1 + 1 + 1 := by omega
      clear e0 e2 e3 e5 s2
      go_region
      all_goals go_wp2_with fail
      all_goals refine post_gen fun W6 hW6 => ?_
      all_goals have k23 : ¬ w.heap.size + 1 + 1 = w.heap.size + 1 + 1 + 1 := by omega
      all_goals have k32 : ¬ w.heap.size + 1 + 1 + 1 = w.heap.size + 1 + 1 := by omega
      all_goals have t6 : Same [w.heap.size + 1 + 1, w.heap.size + 1 + 1 + 1] W2 W6 := by rw [hW6]; refine Same.drew ?_; (repeat refine Same.set ?_ (.inl (by simp))); exact Same.refl _ _
      all_goals have h2 : W6.heap[w.heap.size + 1 + 1]? = some (.cells #[.int .i64 x.mem.T, .int .i64 x.mem.C, .slice ma ml mc, .int .u64 x.disk.root, .slice ra rl rc, .slice sa sl sc] 33 (0, 0)) := by rw [hW6, show ∀ x : World, x.drew.heap = x.heap from fun _ => rfl]; simp only [block_set_other k23]; simp [set_at, E2.out]
      all_goals have h3 : W6.heap[w.heap.size + 1 + 1 + 1]? = some (.cells #[.int .i64 oo.err, .bool oo.is, .int .i64 oo.n, .int .u64 oo.w, .slice oa ol oc] 38 (0, 0)) := by rw [hW6, show ∀ x : World, x.drew.heap = x.heap from fun _ => rfl]; simp [set_at, block_set_other k32, E3.out, outZero]
      all_goals clear hW6 x0 x1 x2 x3 x4 x5 y0 y1 y2 y3 y4 y5 z0 z1 z2 z3 z4 u0 u1 u2 u3 u4 g2 g3
      all_goals obtain ⟨y0, y1, y2, y3, y4, y5⟩ := cells6 h2
      all_goals obtain ⟨z0, z1, z2, z3, z4⟩ := cells5 h3
      all_goals refine bodyPost_ret (v := .tuple #[.agg #[.int .i64 x.mem.T, .int .i64 x.mem.C, .slice ma ml mc, .int .u64 x.disk.root, .slice ra rl rc, .slice sa sl sc], .agg #[.int .i64 oo.err, .bool oo.is, .int .i64 oo.n, .int .u64 oo.w, .slice oa ol oc], .bool true]) (by simp [results, Tryd.results9, go_sem, y0, y1, y2, y3, y4, y5, z0, z1, z2, z3, z4]) rfl ?_
      all_goals have s16 : Same [w.heap.size + 1 + 1, w.heap.size + 1 + 1 + 1] w1 W6 := (S2.out.mono (by simp)).trans t6 (fun x hx => .inl hx)
      all_goals have srW : Same [w.heap.size + 1 + 1, w.heap.size + 1 + 1 + 1] wr W6 := (HS.out.mono (by simp)).trans s16 (fun x hx => .inl hx)
      all_goals refine ⟨_, _, rfl, HAT.out.same.trans srW (fun x hx => .inr (by simp at hx; omega)), ?_, ⟨_, by rw [← HO.out], ?_, by rw [← HO.out]; exact HR.out⟩⟩
      all_goals first
        | exact HX.out ▸ (HAT.out.w.same srW (fun x hx => by simp at hx; rcases hx with h | h <;> simp [h])).grow (fun x hx => .inl (by simp [hx]))
        | exact HO.out ▸ (HL.out.same s16 (fun x hx => by simp at hx; rcases hx with h | h <;> simp [h])).grow (fun x hx => .inl (by simp [hx]))
    | ask a k =>
      obtain ⟨hfit, post', rfl, hrun2⟩ := runW_ask HAT.out.run
      refine list_Next_any (log := pre) HBy ht hu hvv HW.out HW2.out hH h0' hM1 hlg (replay_ask HAT.out.res) (fun _ _ _ _ _ _ hf => hf.elim) ?_
      intro aa s w1 av hs ha hk
      subst hk
      obtain ⟨dv, uv, rfl, hdv, huv, hacc⟩ := ha
      obtain ⟨da, dl, dc, rfl⟩ := hdv.form
      obtain ⟨ua, ul, uc, rfl⟩ := huv.form
      have c0 := (hs.block _ (lt_of_some HAT.out.b0) (by simp)).trans HAT.out.b0
      have l3 : w.heap.size + 1 + 1 + 1 < w1.heap.size := lt_of_some ((hs.block _ (lt_of_some HAT.out.b3) (by simp)).trans HAT.out.b3)
      have HFIT := hid hfit; have HRUN2 := hid hrun2; have HS := hid hs; have HDV := hid hdv; have HUV := hid huv; have HACC := hid hacc
      have C0 := hid c0
      clear hfit hrun2 hdv huv hacc hlg hM1 hM0 h0' hH x0 x1 x2 x3 x4 x5 o0 o1 o2 o3
      obtain ⟨x0, x1, x2, x3, x4, x5⟩ := cells6 c0
      clear c0 hs
      have l0 : w.heap.size < w1.heap.size := by omega
      have l1 : w.heap.size < w1.heap.size + 1 := by omega
      unfold outZero
      go_wp2_with fail
      refine calls_gen fun W2 hW2 => ?_
      have s2 : Same [] w1 W2 := by rw [hW2]; (repeat refine Same.alloc ?_ _); exact Same.refl _ _
      clear hW2
      have hlt : ∀ k, k ∈ w.heap.size :: (w.heap.size + 1 + 1) :: (w.heap.size + 1 + 1 + 1) :: (ownL _ ++ M) → k < W2.heap.size := fun k hk => by
        have hz := s2.size
        have hz1 := HS.out.size
        simp only [List.mem_cons, List.mem_append] at hk
        rcases hk with h | h | h | h | h
        · omega
        · omega
        · omega
        · have := owns_lt HAT.out.own k h; omega
        · have := HM.out k h; omega
      have hs02 : Same [] wr W2 := HS.out.then s2
      refine (Do_any (x := x) (a := aa) (me := me) HAT.out.ok HFIT.out (HAT.out.w.same hs02 (by simp)) ⟨_, _, rfl, (HDV.out.grow (by simp)).same s2 (by simp), (HUV.out.grow (by simp)).same s2 (by simp), HACC.out⟩ hlt).mono ?_
      rintro _ w3 ⟨v', rfl, hs3, hv', hq1, hq2, hq3⟩
      have hokY := HAT.out.ok.step aa
      have hTY := worldStep_T me x aa
      have hrunY := HRUN2.out
      have hlenY := HAT.out.len
      have hgY := HAT.out.g
      generalize (worldStep me x aa).2 = r at *
      generalize (worldStep me x aa).1 = y at *
      obtain ⟨wv', u0, u1, rfl, hq4, hq5, hq6, hq7⟩ := hv'
      obtain ⟨ma', ml', mc', rfl⟩ := hq4.form
      obtain ⟨ra', rl', rc', rfl⟩ : ∃ a l c, u0 = .slice a l c := by obtain ⟨_, _, h, _⟩ := hq5; exact h.form
      obtain ⟨sa', sl', sc', rfl⟩ : ∃ a l c, u1 = .slice a l c := by obtain ⟨_, _, h, _⟩ := hq6; exact h.form
      have hs03 : Same [] wr w3 := hs02.then hs3
      have c0 := (hs03.block _ (lt_of_some HAT.out.b0) (by simp)).trans HAT.out.b0
      have f0 := fun o => frozen_of_block (o := o) c0
      clear x0 x1 x2 x3 x4 x5
      obtain ⟨x0, x1, x2, x3, x4, x5⟩ := cells6 c0
      have l5 : w.heap.size < w3.heap.size := lt_of_some c0
      have l6 : w.heap.size < w3.heap.size + 1 := by omega
      have k1 : ¬ w3.heap.size = w.heap.size := by omega
      have k2 : ¬ w3.heap.size + 1 = w.heap.size := by omega
      have k3 : ¬ w.heap.size = w3.heap.size := by omega
      have k4 : ¬ w.heap.size = w3.heap.size + 1 := by omega
      have HY : Hid (RWorld _ w3 _ y) := hid ⟨_, _, _, rfl, hq4, hq5, hq6, hq7⟩
      have HOKY := hid hokY; have HTY := hid hTY; have HRUNY := hid hrunY; have HLENY := hid hlenY; have HGY := hid hgY; have HS03 := hid hs03; have C03 := hid c0
      have HQ := hid (And.intro hq1 (And.intro hq2 hq3))
      clear hq1 hq2 hq3 hq4 hq5 hq6 hq7 hokY hTY hrunY hlenY hgY hs03 c0 hs02 hs3 hlt s2 HRUN2 HFIT HDV HUV HACC C0 l0 l1
      have hnd : ∀ b, b ∈ ownL _ → b ≠ w.heap.size ∧ b < wr.heap.size := fun b hb => by have := owns_lt HAT.out.own b hb; exact ⟨by omega, this.2⟩
      have HND := hid hnd
      clear hnd
      go_wp2_with (at_builtin; refine Still.intro ?_)
      refine Still.of (wpList_gen fun W5 hW5 => ?_)
      have s5 : Same [w.heap.size] w3 W5 := by rw [hW5]; exact (((((((((Same.refl _ _).set (.inl (by simp))).set (.inl (by simp))).set (.inl (by simp))).set (.inl (by simp))).set (.inl (by simp))).set (.inl (by simp))).alloc _).alloc _).alloc _
      have b5 : W5.heap[w3.heap.size + 1 + 1]? = some (.cells #[.int .u64 r.n, .slice none 0 0, .bool false] 77 (0, 0)) := by rw [hW5]; exact block_at (by simp)
      have b0 : W5.heap[w.heap.size]? = some (.cells #[.int .i64 y.mem.T, .int .i64 y.mem.C, .slice ma' ml' mc', .int .u64 y.disk.root, .slice ra' rl' rc', .slice sa' sl' sc'] 33 (0, 0)) := by rw [hW5]; refine block_old (block_old (block_old ?_)); simp [set_at, C03.out]
      clear hW5
      have hz3 := HS03.out.size
      have hz5 := s5.size
      have hown5 := owns_same HAT.out.own (w' := W5) (fun b hb => (s5.block b (by have := (HND.out b hb).2; omega) (by simpa using (HND.out b hb).1)).trans (HS03.out.block b (HND.out b hb).2 (by simp)))
      have hnews : ∀ j u, [Value.int .u64 (r.n : Nat), .slice none 0 0, .bool false][j]? = some u → W5.cell? ((⟨w3.heap.size + 1 + 1, 0, none⟩ : Addr).add j) = some u := fun j u hj => by
        rw [Addr.add_lit, Nat.zero_add]
        obtain ⟨q0, q1, q2⟩ := cells3 b5
        match j with
        | 0 => simpa using q0.trans (by simpa using hj)
        | 1 => simpa using q1.trans (by simpa using hj)
        | 2 => simpa using q2.trans (by simpa using hj)
        | j + 3 => simp at hj
      obtain ⟨i, hi, hz0, hz1, hz2⟩ := info_parts info_results
      have hpl : pre.length ≤ 100000 := by omega
      refine wpList_app_own rfl (.tmp 48) (.tmp 50) 71 rfl (w.heap.size + 1 + 1 + 1 + 1) 77 i _ 3 40 und_results hi hz0 hz1 hz2 rfl (by decide) _ pre.length (resCells (logOf pre)) rfl hown5 ⟨w3.heap.size + 1 + 1, 0, none⟩ 1 1 [.int .u64 (r.n : Nat), .slice none 0 0, .bool false] rfl (by decide) rfl hnews (by simp [Value.oneCell']) (by omega) (by omega) (by have := lt_of_some HAT.out.b3; omega) ?_
      intro v6 w6 hown6 hs6 hv6
      have HOWN6 := hid hown6; have HS6 := hid hs6; have HV6 := hid hv6; have S5 := hid s5; have B0 := hid b0; have HZ5 := hid hz5; have HZ3 := hid hz3
      clear hown5 hnews hown6 hs6 hv6 s5 b5 b0 hz5 hz3 x0 x1 x2 x3 x4 x5
      go_wp2_with fail
      go_roundg (gk - 1)
      case measure => have := HGY.out; omega
      case rel =>
        have hz6 := HS6.out.size
        have hw06 : Same [] w w6 := by
          have h1 : Same [w.heap.size] wr W5 := (HS03.out.mono (by simp)).trans S5.out (fun x hx => .inl hx)
          have h2 : Same [] w W5 := HAT.out.same.trans h1 (fun x hx => .inr (by simp at hx; omega))
          exact h2.trans HS6.out (fun x hx => .inr (by have := owns_lt HAT.out.own x hx; omega))
        have hold : ∀ b, b ∉ ownL u11 → b ≠ w.heap.size → b < wr.heap.size → w6.heap[b]? = wr.heap[b]? := fun b h1 h2 h3 =>
          (HS6.out.block b (by have := HZ3.out; have := HZ5.out; omega) h1).trans ((S5.out.block b (by have := HZ3.out; omega) (by simpa using h2)).trans (HS03.out.block b h3 (by simp)))
        have hno : ∀ k, k < w.heap.size + 1 + 1 + 1 + 1 → k ∉ ownL u11 := fun k hk hm => by have := owns_lt HAT.out.own k hm; omega
        have hlw := lt_of_some HAT.out.b3
        refine ⟨y, k r, pre ++ [r], post', .slice ma' ml' mc', .slice ra' rl' rc', .slice sa' sl' sc', ⟨hw06, HRUNY.out, resid_snoc HAT.out.res r, by simp, by have := HLENY.out; simp at this ⊢; omega, by have := HGY.out; simp at this; omega, HAT.out.quiet.snoc HQ.out, HOKY.out, HTY.out.trans HAT.out.T, ?_, ?_, ?_, ?_, ?_, ?_⟩⟩
        · rw [resCells_snoc, HQ.out.2.2]; simpa using HOWN6.out
        · exact (HS6.out.block _ (by have := HZ3.out; have := HZ5.out; omega) (hno _ (by omega))).trans B0.out
        · exact (hold _ (hno _ (by omega)) (by omega) (by omega)).trans HAT.out.b1
        · exact (hold _ (hno _ (by omega)) (by omega) (by omega)).trans HAT.out.b2
        · exact (hold _ (hno _ (by omega)) (by omega) (by omega)).trans HAT.out.b3
        · have h1 := (HY.out.same S5.out (fun x hx => by simp at hx; simp [hx])).grow (M' := w.heap.size :: (w.heap.size + 1 + 1) :: (w.heap.size + 1 + 1 + 1) :: W5.heap.size :: (ownL u11 ++ M)) (fun x hx => by
            simp only [List.mem_cons, List.mem_append] at hx ⊢
            rcases hx with h | h | h | h | h | h
            · exact .inl (.inl h)
            · exact .inl (.inr (.inl h))
            · exact .inl (.inr (.inr (.inl h)))
            · exact .inr (by omega)
            · exact .inl (.inr (.inr (.inr (.inl h))))
            · exact .inl (.inr (.inr (.inr (.inr h)))))
          have h2 := h1.same HS6.out (fun x hx => by simp only [List.mem_cons, List.mem_append]; exact .inr (.inr (.inr (.inr (.inl hx)))))
          refine h2.grow (M' := w.heap.size :: (w.heap.size + 1 + 1) :: (w.heap.size + 1 + 1 + 1) :: (ownL v6 ++ M)) (fun x hx => .inl ?_)
          simp only [List.mem_cons, List.mem_append] at hx ⊢
          rcases hx with h | h | h | h | h
          · exact .inl h
          · exact .inr (.inl h)
          · exact .inr (.inr (.inl h))
          · rcases HV6.out with e | e
            · rw [e] at h; exact .inr (.inr (.inr (.inr (.inl h))))
            · rw [e] at h; simp only [List.mem_singleton] at h; exact .inr (.inr (.inr (.inl h)))
          · exact .inr (.inr (.inr (.inr (.inr h))))
end Go.Proofs.YtdfeinfaljidgaaDoor
