/- disk.turn, Append, Sync: a stream of a disk is turned. -/
import Derived.Test.YtdfeinfaljidgaaDoorApp
import Derived.Test.YtdfeinfaljidgaaDoorWorlds
import Derived.Test.YtdfeinfaljidgaaDoorPure
import Derived.WalkSpells
import Derived.Deep.RegionHeld2
import Derived.Laws.EntriesVeiled
namespace Go.Proofs.YtdfeinfaljidgaaDoor
open Go Go.RowKit

theorem strCells_length (l : List (StreamM × Value)) : (strCells l).length = l.length * 2 := by
  induction l with
  | nil => rfl
  | cons a l ih => simp only [strCells, List.flatMap_cons, List.length_append, List.length_cons, List.length_nil] at ih ⊢; omega
theorem strCells_one {M : List Nat} {w : World} {l : List (StreamM × Value)} (h : ∀ p, p ∈ l → Bytes M w p.2 p.1.data) : ∀ u, u ∈ strCells l → u.oneCell' = true := by
  intro u hu
  obtain ⟨p, hp, hu⟩ := List.mem_flatMap.1 hu
  obtain ⟨a, n, c, hv⟩ := (h p hp).form
  simp only [List.mem_cons, List.not_mem_nil, or_false] at hu
  rcases hu with rfl | rfl
  · rw [hv]; rfl
  · rfl
theorem strCells_at {l : List (StreamM × Value)} {i : Nat} {s : StreamM} {v : Value} (h : l[i]? = some (s, v)) : (strCells l)[i * 2]? = some v ∧ (strCells l)[i * 2 + 1]? = some (.int .i64 s.synced) := by
  induction l generalizing i with
  | nil => simp at h
  | cons a l ih =>
    have e : strCells (a :: l) = [a.2, .int .i64 a.1.synced] ++ strCells l := by simp [strCells]
    cases i with
    | zero => simp only [List.getElem?_cons_zero, Option.some.injEq] at h; subst h; simp [e]
    | succ i =>
      have h2 := ih (i := i) (by simpa using h)
      rw [e]
      refine ⟨?_, ?_⟩
      · rw [List.getElem?_append_right (by simp; omega)]; simpa [show (i + 1) * 2 - 2 = i * 2 from by omega] using h2.1
      · rw [List.getElem?_append_right (by simp; omega)]; simpa [show (i + 1) * 2 + 1 - 2 = i * 2 + 1 from by omega] using h2.2
theorem strCells_set (l : List (StreamM × Value)) (i : Nat) (p : StreamM × Value) (hi : i < l.length) : strCells (l.set i p) = ((strCells l).set (i * 2) p.2).set (i * 2 + 1) (.int .i64 p.1.synced) := by
  induction l generalizing i with
  | nil => simp at hi
  | cons a l ih =>
    cases i with
    | zero => simp [strCells]
    | succ i =>
      have h2 := ih i (by simpa using hi)
      have e : ∀ (a : StreamM × Value) l, strCells (a :: l) = a.2 :: .int .i64 a.1.synced :: strCells l := by simp [strCells]
      rw [List.set_cons_succ, e, e, h2]
      have e1 : (i + 1) * 2 = i * 2 + 1 + 1 := by omega
      rw [e1, show i * 2 + 1 + 1 + 1 = (i * 2 + 1) + 1 + 1 from rfl]
      simp only [List.set_cons_succ]
theorem map_set_fst (l : List (StreamM × Value)) (i : Nat) (f : StreamM → StreamM) {s : StreamM} {v v' : Value} (h : l[i]? = some (s, v)) : (l.set i (f s, v')).map (·.1) = (l.map (·.1)).modify i f := by
  apply List.ext_getElem?
  intro j
  rw [List.getElem?_map, List.getElem?_set, List.getElem?_modify, List.getElem?_map]
  by_cases e : i = j
  · subst e
    obtain ⟨hj, hv⟩ := List.getElem?_eq_some_iff.1 h
    simp [hj, hv]
  · simp [e]

theorem then_gen {next : Act → World → Prop} {Q : Exit → Act → World → Prop} {e : Exit} {a : Act} {w : World} (h : ∀ W, W = w → Exit.then next Q e a W) : Exit.then next Q e a w := h w rfl

theorem strs_turned {M : List Nat} {W : World} {l : List (StreamM × Value)} {i b c : Nat} {s : StreamM} {bv nv : Value} {F : StreamM → StreamM} {more : Array Value} {e : TypeId} (hli : l[i]? = some (s, bv))
    (hB : W.heap[b]? = some (.cells ((((strCells l).toArray ++ more).setIfInBounds (i * 2) nv).setIfInBounds (i * 2 + 1) (.int .i64 (F s).synced)) e (0, 0))) (hbM : b ∉ M) (hc : l.length ≤ c) (hl : l.length ≤ 64)
    (hby : ∀ p, p ∈ l → Bytes M W p.2 p.1.data) (hn : Bytes M W nv (F s).data) : RStrs M W (.slice (some ⟨b, 0, none⟩) l.length c) ((l.map (·.1)).modify i F) := by
  have hil := (List.getElem?_eq_some_iff.1 hli).1
  refine ⟨l.set i (F s, nv), map_set_fst l i F hli, ⟨_, _, _, rfl, by rw [strCells_length]; simp, hc, by omega, .inr ⟨b, 0, rfl, hbM, _, _, _, hB, fun j hj => ?_⟩⟩, fun p hp => ?_⟩
  · rw [strCells_length, List.length_set] at hj
    have hlen := strCells_length l
    rw [strCells_set l i _ hil, Nat.zero_add, Array.getElem?_setIfInBounds, Array.getElem?_setIfInBounds, List.getElem?_set, List.getElem?_set]
    have hap : ((strCells l).toArray ++ more)[j]? = (strCells l)[j]? := by rw [Array.getElem?_append_left (by simp; omega)]; simp
    simp only [Array.size_setIfInBounds, Array.size_append, List.size_toArray, List.length_set, hap]
    repeat' split
    all_goals first | rfl | omega
  · rcases List.mem_or_eq_of_mem_set hp with h | h
    · exact hby p h
    · subst h; exact hn

/-- What turns a stream. -/
def ByOk (f : FuncId) (caps : Array Value) (F : StreamM → StreamM) (M : List Nat) (w : World) (s : StreamM) : Prop :=
  ∀ M' w' bv, Same [] w w' → (∀ k, k ∈ M' → k ∈ M ∨ w.heap.size ≤ k) → (∀ k, k ∈ M' → k < w'.heap.size) → Bytes M' w' bv s.data →
    Calls Tryd.prog f (#[.agg #[bv, .int .i64 s.synced]] ++ caps) w' fun e w'' => Same [] w' w'' ∧ ∃ bv', e = .returned (.agg #[bv', .int .i64 (F s).synced]) ∧ Bytes M' w'' bv' (F s).data

set_option maxRecDepth 100000 in
theorem is_any0 {w : World} {root i n : Nat} {a0 : Option Addr} {c0 : Nat} {v1 : Value} (hi : i < n) :
    Calls Tryd.prog 77 #[.agg #[.int .u64 root, .slice a0 n c0, v1], .int .i64 0, .int .i64 i] w fun e w' => e = .returned (.bool true) ∧ Same [] w w' := by
  have g1 : decide ((0 : Int) ≤ (i : Int)) = true := by simp
  have g2 : decide ((i : Int) < (n : Int)) = true := by simp only [decide_eq_true_eq]; omega
  go_enter Tryd.func77, Tryd.ntmps77
  go_wp2_with fail
  go_ret
  exact ⟨by simp, (Same.refl [] w).alloc _⟩

set_option maxRecDepth 100000 in
theorem is_any1 {w : World} {root i n : Nat} {a1 : Option Addr} {c1 : Nat} {v0 : Value} (hi : i < n) :
    Calls Tryd.prog 77 #[.agg #[.int .u64 root, v0, .slice a1 n c1], .int .i64 1, .int .i64 i] w fun e w' => e = .returned (.bool true) ∧ Same [] w w' := by
  have g1 : decide ((0 : Int) ≤ (i : Int)) = true := by simp
  have g2 : decide ((i : Int) < (n : Int)) = true := by simp only [decide_eq_true_eq]; omega
  go_enter Tryd.func77, Tryd.ntmps77
  go_wp2_with fail
  go_ret
  exact ⟨by simp, (Same.refl [] w).alloc _⟩

set_option maxHeartbeats 2000000 in
set_option maxRecDepth 100000 in
theorem turn_any0 {M : List Nat} {w : World} {f : FuncId} {caps : Array Value} {F : StreamM → StreamM} {root i : Nat} {v0 v1 : Value} {ss : List StreamM} {s : StreamM} (he : ∀ args w, (callFunc f args).run Tryd.prog w = .ok (.enter f args) w)
    (hv : RStrs M w v0 ss) (hs : ss[i]? = some s) (hM : ∀ k, k ∈ M → k < w.heap.size) (hsm : ss.length ≤ 64) (hF : ByOk f caps F M w s) (hot : ∃ a l c, v1 = .slice a l c) :
    Calls Tryd.prog 73 #[.agg #[.int .u64 root, v0, v1], .int .i64 0, .int .i64 i, .func (.func f) #[] caps] w fun e w' => ∃ v', e = .returned (.tuple #[.agg #[.int .u64 root, v', v1], .int .i64 0]) ∧ Same [] w w' ∧ RStrs M w' v' (ss.modify i F) := by
  obtain ⟨l, hl, hsl, hby⟩ := hv
  subst hl
  obtain ⟨⟨s', bv⟩, hli, rfl⟩ : ∃ p, l[i]? = some p ∧ p.1 = s := by rw [List.getElem?_map] at hs; exact Option.map_eq_some_iff.1 hs
  simp only at hF hs
  have hil := (List.getElem?_eq_some_iff.1 hli).1
  have h0 := hsl
  obtain ⟨a, n, c, rfl, h2, h3, h4, h5⟩ := h0
  rw [strCells_length] at h2
  obtain rfl : n = l.length := by omega
  rcases h5 with ⟨_, h5, _⟩ | ⟨b, off, rfl, hr⟩
  · omega
  clear hr h2
  obtain ⟨oa, ol, oc, rfl⟩ := hot
  have hbv := hby _ (List.mem_of_getElem? hli)
  obtain ⟨ba, bl, bc, rfl⟩ := hbv.form
  have hg : i < l.length := hil
  have Hsl := hid hsl; have Hby := hid hby; have Hbv := hid hbv; have HF := hid hF; have HM := hid hM; have Hli := hid hli; have Hsm := hid hsm
  clear hsl hby hbv hF hM hli hs hsm
  go_enter Tryd.func73, Tryd.ntmps73
  go_wp2_with fail
  refine calls_gen fun W hW => ?_
  have hsame : Same [] w W := by rw [hW]; exact ((Same.refl _ w).alloc _).alloc _
  have b0 : W.heap[w.heap.size]? = some (.cells #[.int .u64 root, .slice (some ⟨b, off, none⟩) l.length c, .slice oa ol oc] 31 (0, 0)) := by rw [hW]; exact block_old (block_new _ _)
  have b1 : W.heap[w.heap.size + 1]? = some (.cells #[.int .u64 0, .slice none 0 0, .slice none 0 0] 31 (0, 0)) := by rw [hW]; exact block_at (by simp)
  clear hW
  refine (is_any0 hil).mono ?_
  rintro _ w1 ⟨rfl, hs1⟩
  have c0 := (hs1.block _ (lt_of_some b0) (by simp)).trans b0
  have c1 := (hs1.block _ (lt_of_some b1) (by simp)).trans b1
  have S1 := hid (hsame.then hs1)
  obtain ⟨m0, m1, m2⟩ := cells3 c0
  have C0 := hid c0; have C1 := hid c1
  clear b0 b1 c0 c1 hs1 hsame
  go_wp2_with fail
  refine (clone_streams (Hsl.out.same S1.out (by simp)) (strCells_one Hby.out) (fun h => by have := strCells_length l; rw [h] at this; simp at this; omega) (by have := Hsm.out; simp at this; omega)).mono ?_
  rintro _ w2 ⟨b', c', more, rfl, hs2, hb', hblk, hc'⟩
  have hz1 := S1.out.size
  have c0 := (hs2.block _ (lt_of_some C0.out) (by simp)).trans C0.out
  have c1 := (hs2.block _ (lt_of_some C1.out) (by simp)).trans C1.out
  have f0 : ∀ o, w2.frozen? ⟨w.heap.size, o, none⟩ = false := fun o => frozen_of_block c0
  clear m0 m1 m2
  obtain ⟨m0, m1, m2⟩ := cells3 c0
  have lsz : w.heap.size + 1 < w1.heap.size := lt_of_some C1.out
  have D0 := hid c0; have D1 := hid c1; have DB := hid hblk; have S2 := hid (S1.out.then hs2); have HB' := hid hb'; have HC' := hid hc'
  clear c0 c1 hblk hs2 hb' hc' C0 C1
  go_wp2_with fail
  refine wp_gen fun W2 hW2 => ?_
  have n0 : ¬ b' = w.heap.size := by have := HB'.out; omega
  have n1 : ¬ b' = w.heap.size + 1 := by have := HB'.out; omega
  have s3 : Same [w.heap.size] w2 W2 := by rw [hW2]; exact (Same.refl _ _).set (.inl (by simp))
  have e0 : W2.heap[w.heap.size]? = some (.cells #[.int .u64 root, (.slice (some ⟨b', 0, none⟩) l.length c'), .slice oa ol oc] 31 (0, 0)) := by rw [hW2]; simp [set_at, D0.out]
  have e1 := (s3.block _ (lt_of_some D1.out) (by simp)).trans D1.out
  have eb := (s3.block _ (lt_of_some DB.out) (by simp [n0])).trans DB.out
  clear hW2 m0 m1 m2 f0
  obtain ⟨q1, q2⟩ := strCells_at Hli.out
  have hkeep : ∀ w', Same [b'] W2.drew w' → w'.cell? ⟨w.heap.size, 0, none⟩ = some (.int .u64 root) ∧ w'.cell? ⟨w.heap.size, 1, none⟩ = some ((.slice (some ⟨b', 0, none⟩) l.length c')) ∧ w'.cell? ⟨w.heap.size, 2, none⟩ = some ((.slice oa ol oc)) := fun w' hs =>
    cells3 ((hs.block _ (lt_of_some e0) (by simp; omega)).trans e0)
  have hlen := strCells_length l
  have hx : ∀ w', Same [] W2.drew w' → w'.cell? ⟨b', i * 2, none⟩ = some (.slice ba bl bc) ∧ w'.cell? ⟨b', i * 2 + 1, none⟩ = some (.int .i64 s'.synced) := fun w' hs => by
    have eb' := (hs.block _ (lt_of_some eb) (by simp)).trans eb
    refine ⟨cell_of_block eb' ?_, cell_of_block eb' ?_⟩
    · rw [Array.getElem?_append_left (by simp; omega)]; simpa using q1
    · rw [Array.getElem?_append_left (by simp; omega)]; simpa using q2
  obtain ⟨x3, x4⟩ := hx _ (Same.refl _ _)
  have hM' : ∀ k, k ∈ (b' :: w.heap.size :: (w.heap.size + 1) :: M) → k ∈ M ∨ w.heap.size ≤ k := fun k hk => by have := HB'.out; simp at hk; rcases hk with h | h | h | h <;> first | exact .inl h | (right; omega)
  have hM2 : ∀ k, k ∈ (b' :: w.heap.size :: (w.heap.size + 1) :: M) → k < W2.drew.heap.size := fun k hk => by
    have q1 := lt_of_some eb; have q2 := lt_of_some e0; have q3 := lt_of_some e1
    show k < W2.heap.size
    simp at hk; rcases hk with h | h | h | h <;> first | omega | (have := HM.out k h; omega)
  have hS2 : Same [] w W2 := S2.out.trans s3 (fun z hz => .inr (by simp at hz; omega))
  have hcall := HF.out _ W2.drew (.slice ba bl bc) (hS2.drew) hM' hM2 ((Hbv.out.grow hM').same hS2.drew (by simp))
  have E0 := hid e0; have E1 := hid e1; have EB := hid eb; have HS2 := hid hS2; have hlenC := hlen
  have Hq1 := hid q1; have Hq2 := hid q2; have Hcall := hid hcall; have HM' := hid hM'; have HM2 := hid hM2; have HLC := hid hlenC
  clear e0 e1 eb hS2 q1 q2 hcall hM' hM2 s3 hlenC hlen
  obtain ⟨x0, x1, x2⟩ := hkeep _ (Same.refl _ _)
  go_region_with
    ((refine Hcall.out.mono ?_; rintro e w4 ⟨hs4, bv', rfl, hbv'⟩; obtain ⟨na, nl, nc, rfl⟩ := hbv'.form; have eb4 := (hs4.block _ (lt_of_some EB.out) (by simp)).trans EB.out; have fb : ∀ o, w4.frozen? ⟨b', o, none⟩ = false := fun o => frozen_of_block eb4; obtain ⟨y3, y4⟩ := hx _ hs4; obtain ⟨z0, z1, z2⟩ := hkeep _ (hs4.mono (by simp)); have EB4 := hid eb4; have HBV := hid hbv'; clear hbv' eb4))
  all_goals refine then_gen fun W5 hW5 => ?_
  all_goals have t5 : Same [b'] w4 W5 := by rw [hW5]; exact ((Same.refl _ _).set (.inl (by simp))).set (.inl (by simp))
  all_goals have g0 := (t5.block _ (by have := hs4.size; have := lt_of_some E0.out; show w.heap.size < w4.heap.size; have e : W2.drew.heap.size = W2.heap.size := rfl; omega) (by simp; omega)).trans ((hs4.block _ (lt_of_some E0.out) (by simp)).trans E0.out)
  all_goals have g1 := (t5.block _ (by have := hs4.size; have := lt_of_some E1.out; show w.heap.size + 1 < w4.heap.size; have e : W2.drew.heap.size = W2.heap.size := rfl; omega) (by simp; omega)).trans ((hs4.block _ (lt_of_some E1.out) (by simp)).trans E1.out)
  all_goals have gb : W5.heap[b']? = some (.cells ((((strCells l).toArray ++ more).setIfInBounds (i * 2) (.slice na nl nc)).setIfInBounds (i * 2 + 1) (.int .i64 (F s').synced)) 130 (0, 0)) := by rw [hW5]; exact block_set (block_set EB4.out)
  all_goals have f1 : ∀ o, W5.frozen? ⟨w.heap.size + 1, o, none⟩ = false := fun o => frozen_of_block g1
  all_goals clear hW5 x0 x1 x2 x3 x4 y3 y4 z0 z1 z2
  all_goals obtain ⟨x0, x1, x2⟩ := cells3 g0
  all_goals obtain ⟨y0, y1, y2⟩ := cells3 g1
  all_goals have G1 := hid g1
  all_goals have GB := hid gb
  all_goals have T5 := hid t5
  all_goals have HS4 := hid hs4
  all_goals have HX := hid hx
  all_goals have HK := hid hkeep
  all_goals clear g0 g1 gb t5 hs4 hx hkeep
  all_goals go_wp2_with fail
  all_goals refine post_gen fun W6 hW6 => ?_
  all_goals have t6 : Same [w.heap.size + 1] W5 W6 := by rw [hW6]; exact (((Same.refl _ _).set (.inl (by simp))).set (.inl (by simp))).set (.inl (by simp))
  all_goals have h1 : W6.heap[w.heap.size + 1]? = some (.cells #[.int .u64 root, (.slice (some ⟨b', 0, none⟩) l.length c'), (.slice oa ol oc)] 31 (0, 0)) := by rw [hW6]; simp [set_at, G1.out]
  all_goals clear hW6 y0 y1 y2 f1
  all_goals obtain ⟨y0, y1, y2⟩ := cells3 h1
  all_goals refine bodyPost_ret (v := .tuple #[.agg #[.int .u64 root, (.slice (some ⟨b', 0, none⟩) l.length c'), (.slice oa ol oc)], .int .i64 0]) (by simp [results, Tryd.results73, go_sem, y0, y1, y2]) rfl ?_
  all_goals have t46 : Same [b', w.heap.size + 1] w4 W6 := (T5.out.mono (fun x hx => .inl (by simp at hx; simp [hx]))).trans t6 (fun x hx => .inl (by simp at hx; simp [hx]))
  all_goals have hfin : Same [] w W6 := (HS2.out.drew.then HS4.out).trans t46 (fun x hx => .inr (by have := HB'.out; simp at hx; omega))
  all_goals have hbM : b' ∉ M := fun hm => by have := HM.out b' hm; have := HB'.out; omega
  all_goals refine ⟨_, rfl, hfin, strs_turned Hli.out ((t6.block _ (lt_of_some GB.out) (by simp; omega)).trans GB.out) hbM HC'.out (by simpa using Hsm.out) (fun p hp => (Hby.out p hp).same hfin (by simp)) ((HBV.out.same t46 (fun x hx => by simp at hx; rcases hx with h | h <;> simp [h])).grow (fun x hx => .inl (by simp [hx])))⟩

set_option maxHeartbeats 2000000 in
set_option maxRecDepth 100000 in
theorem turn_any1 {M : List Nat} {w : World} {f : FuncId} {caps : Array Value} {F : StreamM → StreamM} {root i : Nat} {v1 v0 : Value} {ss : List StreamM} {s : StreamM} (he : ∀ args w, (callFunc f args).run Tryd.prog w = .ok (.enter f args) w)
    (hv : RStrs M w v1 ss) (hs : ss[i]? = some s) (hM : ∀ k, k ∈ M → k < w.heap.size) (hsm : ss.length ≤ 64) (hF : ByOk f caps F M w s) (hot : ∃ a l c, v0 = .slice a l c) :
    Calls Tryd.prog 73 #[.agg #[.int .u64 root, v0, v1], .int .i64 1, .int .i64 i, .func (.func f) #[] caps] w fun e w' => ∃ v', e = .returned (.tuple #[.agg #[.int .u64 root, v0, v'], .int .i64 0]) ∧ Same [] w w' ∧ RStrs M w' v' (ss.modify i F) := by
  obtain ⟨l, hl, hsl, hby⟩ := hv
  subst hl
  obtain ⟨⟨s', bv⟩, hli, rfl⟩ : ∃ p, l[i]? = some p ∧ p.1 = s := by rw [List.getElem?_map] at hs; exact Option.map_eq_some_iff.1 hs
  simp only at hF hs
  have hil := (List.getElem?_eq_some_iff.1 hli).1
  have h0 := hsl
  obtain ⟨a, n, c, rfl, h2, h3, h4, h5⟩ := h0
  rw [strCells_length] at h2
  obtain rfl : n = l.length := by omega
  rcases h5 with ⟨_, h5, _⟩ | ⟨b, off, rfl, hr⟩
  · omega
  clear hr h2
  obtain ⟨oa, ol, oc, rfl⟩ := hot
  have hbv := hby _ (List.mem_of_getElem? hli)
  obtain ⟨ba, bl, bc, rfl⟩ := hbv.form
  have hg : i < l.length := hil
  have Hsl := hid hsl; have Hby := hid hby; have Hbv := hid hbv; have HF := hid hF; have HM := hid hM; have Hli := hid hli; have Hsm := hid hsm
  clear hsl hby hbv hF hM hli hs hsm
  go_enter Tryd.func73, Tryd.ntmps73
  go_wp2_with fail
  refine calls_gen fun W hW => ?_
  have hsame : Same [] w W := by rw [hW]; exact ((Same.refl _ w).alloc _).alloc _
  have b0 : W.heap[w.heap.size]? = some (.cells #[.int .u64 root, .slice oa ol oc, .slice (some ⟨b, off, none⟩) l.length c] 31 (0, 0)) := by rw [hW]; exact block_old (block_new _ _)
  have b1 : W.heap[w.heap.size + 1]? = some (.cells #[.int .u64 0, .slice none 0 0, .slice none 0 0] 31 (0, 0)) := by rw [hW]; exact block_at (by simp)
  clear hW
  refine (is_any1 hil).mono ?_
  rintro _ w1 ⟨rfl, hs1⟩
  have c0 := (hs1.block _ (lt_of_some b0) (by simp)).trans b0
  have c1 := (hs1.block _ (lt_of_some b1) (by simp)).trans b1
  have S1 := hid (hsame.then hs1)
  obtain ⟨m0, m1, m2⟩ := cells3 c0
  have C0 := hid c0; have C1 := hid c1
  clear b0 b1 c0 c1 hs1 hsame
  go_wp2_with fail
  refine (clone_streams (Hsl.out.same S1.out (by simp)) (strCells_one Hby.out) (fun h => by have := strCells_length l; rw [h] at this; simp at this; omega) (by have := Hsm.out; simp at this; omega)).mono ?_
  rintro _ w2 ⟨b', c', more, rfl, hs2, hb', hblk, hc'⟩
  have hz1 := S1.out.size
  have c0 := (hs2.block _ (lt_of_some C0.out) (by simp)).trans C0.out
  have c1 := (hs2.block _ (lt_of_some C1.out) (by simp)).trans C1.out
  have f0 : ∀ o, w2.frozen? ⟨w.heap.size, o, none⟩ = false := fun o => frozen_of_block c0
  clear m0 m1 m2
  obtain ⟨m0, m1, m2⟩ := cells3 c0
  have lsz : w.heap.size + 1 < w1.heap.size := lt_of_some C1.out
  have D0 := hid c0; have D1 := hid c1; have DB := hid hblk; have S2 := hid (S1.out.then hs2); have HB' := hid hb'; have HC' := hid hc'
  clear c0 c1 hblk hs2 hb' hc' C0 C1
  go_wp2_with fail
  refine wp_gen fun W2 hW2 => ?_
  have n0 : ¬ b' = w.heap.size := by have := HB'.out; omega
  have n1 : ¬ b' = w.heap.size + 1 := by have := HB'.out; omega
  have s3 : Same [w.heap.size] w2 W2 := by rw [hW2]; exact (Same.refl _ _).set (.inl (by simp))
  have e0 : W2.heap[w.heap.size]? = some (.cells #[.int .u64 root, .slice oa ol oc, (.slice (some ⟨b', 0, none⟩) l.length c')] 31 (0, 0)) := by rw [hW2]; simp [set_at, D0.out]
  have e1 := (s3.block _ (lt_of_some D1.out) (by simp)).trans D1.out
  have eb := (s3.block _ (lt_of_some DB.out) (by simp [n0])).trans DB.out
  clear hW2 m0 m1 m2 f0
  obtain ⟨q1, q2⟩ := strCells_at Hli.out
  have hkeep : ∀ w', Same [b'] W2.drew w' → w'.cell? ⟨w.heap.size, 0, none⟩ = some (.int .u64 root) ∧ w'.cell? ⟨w.heap.size, 1, none⟩ = some ((.slice oa ol oc)) ∧ w'.cell? ⟨w.heap.size, 2, none⟩ = some ((.slice (some ⟨b', 0, none⟩) l.length c')) := fun w' hs =>
    cells3 ((hs.block _ (lt_of_some e0) (by simp; omega)).trans e0)
  have hlen := strCells_length l
  have hx : ∀ w', Same [] W2.drew w' → w'.cell? ⟨b', i * 2, none⟩ = some (.slice ba bl bc) ∧ w'.cell? ⟨b', i * 2 + 1, none⟩ = some (.int .i64 s'.synced) := fun w' hs => by
    have eb' := (hs.block _ (lt_of_some eb) (by simp)).trans eb
    refine ⟨cell_of_block eb' ?_, cell_of_block eb' ?_⟩
    · rw [Array.getElem?_append_left (by simp; omega)]; simpa using q1
    · rw [Array.getElem?_append_left (by simp; omega)]; simpa using q2
  obtain ⟨x3, x4⟩ := hx _ (Same.refl _ _)
  have hM' : ∀ k, k ∈ (b' :: w.heap.size :: (w.heap.size + 1) :: M) → k ∈ M ∨ w.heap.size ≤ k := fun k hk => by have := HB'.out; simp at hk; rcases hk with h | h | h | h <;> first | exact .inl h | (right; omega)
  have hM2 : ∀ k, k ∈ (b' :: w.heap.size :: (w.heap.size + 1) :: M) → k < W2.drew.heap.size := fun k hk => by
    have q1 := lt_of_some eb; have q2 := lt_of_some e0; have q3 := lt_of_some e1
    show k < W2.heap.size
    simp at hk; rcases hk with h | h | h | h <;> first | omega | (have := HM.out k h; omega)
  have hS2 : Same [] w W2 := S2.out.trans s3 (fun z hz => .inr (by simp at hz; omega))
  have hcall := HF.out _ W2.drew (.slice ba bl bc) (hS2.drew) hM' hM2 ((Hbv.out.grow hM').same hS2.drew (by simp))
  have E0 := hid e0; have E1 := hid e1; have EB := hid eb; have HS2 := hid hS2; have hlenC := hlen
  have Hq1 := hid q1; have Hq2 := hid q2; have Hcall := hid hcall; have HM' := hid hM'; have HM2 := hid hM2; have HLC := hid hlenC
  clear e0 e1 eb hS2 q1 q2 hcall hM' hM2 s3 hlenC hlen
  obtain ⟨x0, x1, x2⟩ := hkeep _ (Same.refl _ _)
  go_region_with
    ((refine Hcall.out.mono ?_; rintro e w4 ⟨hs4, bv', rfl, hbv'⟩; obtain ⟨na, nl, nc, rfl⟩ := hbv'.form; have eb4 := (hs4.block _ (lt_of_some EB.out) (by simp)).trans EB.out; have fb : ∀ o, w4.frozen? ⟨b', o, none⟩ = false := fun o => frozen_of_block eb4; obtain ⟨y3, y4⟩ := hx _ hs4; obtain ⟨z0, z1, z2⟩ := hkeep _ (hs4.mono (by simp)); have EB4 := hid eb4; have HBV := hid hbv'; clear hbv' eb4))
  all_goals refine then_gen fun W5 hW5 => ?_
  all_goals have t5 : Same [b'] w4 W5 := by rw [hW5]; exact ((Same.refl _ _).set (.inl (by simp))).set (.inl (by simp))
  all_goals have g0 := (t5.block _ (by have := hs4.size; have := lt_of_some E0.out; show w.heap.size < w4.heap.size; have e : W2.drew.heap.size = W2.heap.size := rfl; omega) (by simp; omega)).trans ((hs4.block _ (lt_of_some E0.out) (by simp)).trans E0.out)
  all_goals have g1 := (t5.block _ (by have := hs4.size; have := lt_of_some E1.out; show w.heap.size + 1 < w4.heap.size; have e : W2.drew.heap.size = W2.heap.size := rfl; omega) (by simp; omega)).trans ((hs4.block _ (lt_of_some E1.out) (by simp)).trans E1.out)
  all_goals have gb : W5.heap[b']? = some (.cells ((((strCells l).toArray ++ more).setIfInBounds (i * 2) (.slice na nl nc)).setIfInBounds (i * 2 + 1) (.int .i64 (F s').synced)) 130 (0, 0)) := by rw [hW5]; exact block_set (block_set EB4.out)
  all_goals have f1 : ∀ o, W5.frozen? ⟨w.heap.size + 1, o, none⟩ = false := fun o => frozen_of_block g1
  all_goals clear hW5 x0 x1 x2 x3 x4 y3 y4 z0 z1 z2
  all_goals obtain ⟨x0, x1, x2⟩ := cells3 g0
  all_goals obtain ⟨y0, y1, y2⟩ := cells3 g1
  all_goals have G1 := hid g1
  all_goals have GB := hid gb
  all_goals have T5 := hid t5
  all_goals have HS4 := hid hs4
  all_goals have HX := hid hx
  all_goals have HK := hid hkeep
  all_goals clear g0 g1 gb t5 hs4 hx hkeep
  all_goals go_wp2_with fail
  all_goals refine post_gen fun W6 hW6 => ?_
  all_goals have t6 : Same [w.heap.size + 1] W5 W6 := by rw [hW6]; exact (((Same.refl _ _).set (.inl (by simp))).set (.inl (by simp))).set (.inl (by simp))
  all_goals have h1 : W6.heap[w.heap.size + 1]? = some (.cells #[.int .u64 root, (.slice oa ol oc), (.slice (some ⟨b', 0, none⟩) l.length c')] 31 (0, 0)) := by rw [hW6]; simp [set_at, G1.out]
  all_goals clear hW6 y0 y1 y2 f1
  all_goals obtain ⟨y0, y1, y2⟩ := cells3 h1
  all_goals refine bodyPost_ret (v := .tuple #[.agg #[.int .u64 root, (.slice oa ol oc), (.slice (some ⟨b', 0, none⟩) l.length c')], .int .i64 0]) (by simp [results, Tryd.results73, go_sem, y0, y1, y2]) rfl ?_
  all_goals have t46 : Same [b', w.heap.size + 1] w4 W6 := (T5.out.mono (fun x hx => .inl (by simp at hx; simp [hx]))).trans t6 (fun x hx => .inl (by simp at hx; simp [hx]))
  all_goals have hfin : Same [] w W6 := (HS2.out.drew.then HS4.out).trans t46 (fun x hx => .inr (by have := HB'.out; simp at hx; omega))
  all_goals have hbM : b' ∉ M := fun hm => by have := HM.out b' hm; have := HB'.out; omega
  all_goals refine ⟨_, rfl, hfin, strs_turned Hli.out ((t6.block _ (lt_of_some GB.out) (by simp; omega)).trans GB.out) hbM HC'.out (by simpa using Hsm.out) (fun p hp => (Hby.out p hp).same hfin (by simp)) ((HBV.out.same t46 (fun x hx => by simp at hx; rcases hx with h | h <;> simp [h])).grow (fun x hx => .inl (by simp [hx])))⟩
end Go.Proofs.YtdfeinfaljidgaaDoor
