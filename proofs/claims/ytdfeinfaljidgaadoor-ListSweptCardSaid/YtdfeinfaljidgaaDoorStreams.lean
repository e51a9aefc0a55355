/- access.streams: an append, or a sync, of a thread's own stream. -/
import Derived.Test.YtdfeinfaljidgaaDoorDiskOps
namespace Go.Proofs.YtdfeinfaljidgaaDoor
open Go Go.RowKit

theorem Row_any0 {w : World} {root : Nat} {v0 v1 : Value} (hr : root % 2 = 0) : Calls Tryd.prog 61 #[.agg #[.int .u64 root, v0, v1]] w fun e w' => e = .returned (.int .i64 0) ∧ Same [] w w' := by
  have h1 : (root : Int) % 2 = 0 := by omega
  clear hr
  go_enter Tryd.func61, Tryd.ntmps61
  go_wp2_with fail
  go_ret
  exact ⟨rfl, (Same.refl [] w).alloc _⟩

theorem Row_any1 {w : World} {root : Nat} {v0 v1 : Value} (hr : root % 2 = 1) : Calls Tryd.prog 61 #[.agg #[.int .u64 root, v0, v1]] w fun e w' => e = .returned (.int .i64 1) ∧ Same [] w w' := by
  have h1 : (root : Int) % 2 = 1 := by omega
  clear hr
  go_enter Tryd.func61, Tryd.ntmps61
  go_wp2_with fail
  go_ret
  exact ⟨rfl, (Same.refl [] w).alloc _⟩

theorem streams5_0 {M : List Nat} {w : World} {root i : Nat} {v0 v1 xv wv : Value} {ss : List StreamM} {s : StreamM} {ce : Int} {aa ab : Nat} {xs : List UInt8} (hx : Bytes [] w xv xs) (hfit : s.data.length + xs.length ≤ 1000000000) (hr : root % 2 = 0) (hv : RStrs M w v0 ss) (hs : ss[i]? = some s) (hM : ∀ k, k ∈ M → k < w.heap.size) (hsm : ss.length ≤ 64) (hot : ∃ a l c, v1 = .slice a l c) (hwv : ∃ a l c, wv = .slice a l c) :
    Calls Tryd.prog 49 #[.agg #[.int .u64 root, v0, v1], .int .i64 i, .agg #[.int .i64 5, .int .i64 ce, .int .u64 aa, .int .u64 ab, xv, wv]] w fun e w' => ∃ v', e = .returned (.tuple #[.agg #[.int .u64 root, v', v1], .agg #[.int .u64 0, .slice none 0 0, .bool false]]) ∧ Same [] w w' ∧ RStrs M w' v' (ss.modify i (fun s => appendM s xs)) := by
  obtain ⟨oa, ol, oc, rfl⟩ := hot
  obtain ⟨wa, wl, wc, rfl⟩ := hwv
  obtain ⟨ma, ml, mc, rfl⟩ : ∃ a l c, v0 = .slice a l c := by obtain ⟨_, _, h, _⟩ := hv; exact h.form
  obtain ⟨xa, xl, xc, rfl⟩ := hx.form
  have HV := hid hv; have HS := hid hs; have HM := hid hM; have HSM := hid hsm; have HR := hid hr; have HX := hid hx; have HF := hid hfit
  clear hv hs hM hsm hr hx hfit
  go_enter Tryd.func49, Tryd.ntmps49
  go_wp2_with fail
  refine calls_gen fun W hW => ?_
  have hsame : Same [] w W := by rw [hW]; (repeat refine Same.alloc ?_ _); exact Same.refl _ _
  have b0 : W.heap[w.heap.size]? = some (.cells #[.int .u64 root, .slice ma ml mc, .slice oa ol oc] 31 (0, 0)) := by rw [hW]; exact block_old (block_old (block_old (block_new _ _)))
  have b1 : W.heap[w.heap.size + 1]? = some (.cells #[.int .i64 5, .int .i64 ce, .int .u64 aa, .int .u64 ab, .slice xa xl xc, .slice wa wl wc] 73 (0, 0)) := by rw [hW]; exact block_old (block_old (block_at (by simp)))
  have b2 : W.heap[w.heap.size + 1 + 1]? = some (.cells #[.int .u64 0, .slice none 0 0, .slice none 0 0] 31 (0, 0)) := by rw [hW]; exact block_old (block_at (by simp))
  have b3 : W.heap[w.heap.size + 1 + 1 + 1]? = some (.cells #[.int .u64 0, .slice none 0 0, .bool false] 77 (0, 0)) := by rw [hW]; exact block_at (by simp)
  clear hW
  refine (Row_any0 HR.out).mono ?_
  rintro _ w1 ⟨rfl, hs1⟩
  have c0 := (hs1.block _ (lt_of_some b0) (by simp)).trans b0
  have c1 := (hs1.block _ (lt_of_some b1) (by simp)).trans b1
  have c2 := (hs1.block _ (lt_of_some b2) (by simp)).trans b2
  have c3 := (hs1.block _ (lt_of_some b3) (by simp)).trans b3
  have l0 := lt_of_some c0
  have l1 := lt_of_some c1
  obtain ⟨x0, x1, x2⟩ := cells3 c0
  obtain ⟨a0, a1, a2, a3, a4, a5⟩ := cells6 c1
  have C0 := hid c0; have C2 := hid c2; have C3 := hid c3; have S1 := hid (hsame.then hs1)
  clear b0 b1 b2 b3 c0 c1 c2 c3 hs1 hsame
  go_wp2_with fail
  refine calls_gen fun W2 hW2 => ?_
  have s2 : Same [] w1 W2 := by rw [hW2]; (repeat refine Same.alloc ?_ _); exact Same.refl _ _
  have b4 : W2.heap[w1.heap.size]? = some (.cells #[.int .u64 0, .slice none 0 0, .bool false] 77 (0, 0)) := by rw [hW2]; exact block_new _ _
  clear hW2
  have c0 := (s2.block _ (lt_of_some C0.out) (by simp)).trans C0.out
  have c2 := (s2.block _ (lt_of_some C2.out) (by simp)).trans C2.out
  have c3 := (s2.block _ (lt_of_some C3.out) (by simp)).trans C3.out
  have l3 := lt_of_some C3.out
  have S2 := hid (S1.out.then s2)
  have hz1 := S1.out.size
  have hgr : ∀ x, x ∈ w.heap.size :: (w.heap.size + 1 + 1) :: (w.heap.size + 1 + 1 + 1) :: M → x ∈ M ∨ w.heap.size ≤ x := fun x hx => by simp at hx; rcases hx with h | h | h | h <;> first | exact .inl h | (right; omega)
  have hlt : ∀ k, k ∈ w.heap.size :: (w.heap.size + 1 + 1) :: (w.heap.size + 1 + 1 + 1) :: M → k < W2.heap.size := fun k hk => by
    have q1 := lt_of_some c3
    simp at hk; rcases hk with h | h | h | h <;> first | omega | (have := HM.out k h; have := S2.out.size; omega)
  refine (disk_Append0 (M := w.heap.size :: (w.heap.size + 1 + 1) :: (w.heap.size + 1 + 1 + 1) :: M) (HX.out.same S2.out (by simp)) HF.out ((HV.out.grow hgr).same S2.out (by simp)) HS.out hlt HSM.out ⟨_, _, _, rfl⟩).mono ?_
  rintro _ w3 ⟨v', rfl, hs3, hv'⟩
  obtain ⟨na, nl, nc, rfl⟩ : ∃ a l c, v' = .slice a l c := by obtain ⟨_, _, h, _⟩ := hv'; exact h.form
  have d0 := (hs3.block _ (lt_of_some c0) (by simp)).trans c0
  have d2 := (hs3.block _ (lt_of_some c2) (by simp)).trans c2
  have d3 := (hs3.block _ (lt_of_some c3) (by simp)).trans c3
  have d4 := (hs3.block _ (lt_of_some b4) (by simp)).trans b4
  have g0 := fun o => frozen_of_block (o := o) d0
  clear x0 x1 x2 a0 a1 a2 a3 a4 a5
  obtain ⟨x0, x1, x2⟩ := cells3 d0
  have D0 := hid d0; have D2 := hid d2; have D3 := hid d3; have D4 := hid d4; have HV' := hid hv'; have S3 := hid (S2.out.then hs3)
  clear d0 d2 d3 d4 hv' hs3 c0 c2 c3 b4 s2 hgr hlt C0 C2 C3
  go_wp2_with fail
  refine wp_gen fun W4 hW4 => ?_
  have s4 : Same [w.heap.size] w3 W4 := by rw [hW4]; exact (((Same.refl _ _).set (.inl (by simp))).set (.inl (by simp))).set (.inl (by simp))
  have e0 : W4.heap[w.heap.size]? = some (.cells #[.int .u64 root, .slice na nl nc, .slice oa ol oc] 31 (0, 0)) := by rw [hW4]; simp [set_at, D0.out]
  have e2 := (s4.block _ (lt_of_some D2.out) (by simp; omega)).trans D2.out
  have e3 := (s4.block _ (lt_of_some D3.out) (by simp; omega)).trans D3.out
  have e4 := (s4.block _ (lt_of_some D4.out) (by simp; omega)).trans D4.out
  clear hW4 x0 x1 x2 g0
  have g2 := fun o => frozen_of_block (o := o) e2
  have g3 := fun o => frozen_of_block (o := o) e3
  obtain ⟨x0, x1, x2⟩ := cells3 e0
  obtain ⟨y0, y1, y2⟩ := cells3 e2
  obtain ⟨z0, z1, z2⟩ := cells3 e3
  obtain ⟨u0, u1, u2⟩ := cells3 e4
  have E2 := hid e2; have E3 := hid e3; have S4 := hid s4
  have n1 : ¬ w1.heap.size = w.heap.size + 1 + 1 := by omega
  have n2 : ¬ w1.heap.size = w.heap.size + 1 + 1 + 1 := by omega
  have n1' : ¬ w.heap.size + 1 + 1 = w1.heap.size := by omega
  have n2' : ¬ w.heap.size + 1 + 1 + 1 = w1.heap.size := by omega
  clear e0 e2 e3 e4 s4
  go_region
  all_goals go_wp2_with fail
  all_goals refine post_gen fun W6 hW6 => ?_
  all_goals have k23 : ¬ w.heap.size + 1 + 1 = w.heap.size + 1 + 1 + 1 := by omega
  all_goals have k32 : ¬ w.heap.size + 1 + 1 + 1 = w.heap.size + 1 + 1 := by omega
  all_goals have t6 : Same [w.heap.size + 1 + 1, w.heap.size + 1 + 1 + 1] W4 W6 := by rw [hW6]; refine Same.drew ?_; (repeat refine Same.set ?_ (.inl (by simp))); exact Same.refl _ _
  all_goals have h2 : W6.heap[w.heap.size + 1 + 1]? = some (.cells #[.int .u64 root, .slice na nl nc, .slice oa ol oc] 31 (0, 0)) := by rw [hW6, show ∀ x : World, x.drew.heap = x.heap from fun _ => rfl]; simp only [block_set_other k23]; simp [set_at, E2.out]
  all_goals have h3 : W6.heap[w.heap.size + 1 + 1 + 1]? = some (.cells #[.int .u64 0, .slice none 0 0, .bool false] 77 (0, 0)) := by rw [hW6, show ∀ x : World, x.drew.heap = x.heap from fun _ => rfl]; simp [set_at, block_set_other k32, E3.out]
  all_goals clear hW6 x0 x1 x2 y0 y1 y2 z0 z1 z2 u0 u1 u2 g2 g3
  all_goals obtain ⟨y0, y1, y2⟩ := cells3 h2
  all_goals obtain ⟨z0, z1, z2⟩ := cells3 h3
  all_goals refine bodyPost_ret (v := .tuple #[.agg #[.int .u64 root, .slice na nl nc, .slice oa ol oc], .agg #[.int .u64 0, .slice none 0 0, .bool false]]) (by simp [results, Tryd.results49, go_sem, y0, y1, y2, z0, z1, z2]) rfl ?_
  all_goals have t36 : Same [w.heap.size, w.heap.size + 1 + 1, w.heap.size + 1 + 1 + 1] w3 W6 := (S4.out.mono (fun x hx => .inl (by simp at hx; simp [hx]))).trans t6 (fun x hx => .inl (by simp at hx; rcases hx with h | h <;> simp [h]))
  all_goals refine ⟨_, rfl, S3.out.trans t36 (fun x hx => .inr (by simp at hx; omega)), ?_⟩
  all_goals exact (HV'.out.same t36 (fun x hx => by simp at hx; rcases hx with h | h | h <;> simp [h])).grow (fun x hx => .inl (by simp [hx]))

theorem streams5_1 {M : List Nat} {w : World} {root i : Nat} {v1 v0 xv wv : Value} {ss : List StreamM} {s : StreamM} {ce : Int} {aa ab : Nat} {xs : List UInt8} (hx : Bytes [] w xv xs) (hfit : s.data.length + xs.length ≤ 1000000000) (hr : root % 2 = 1) (hv : RStrs M w v1 ss) (hs : ss[i]? = some s) (hM : ∀ k, k ∈ M → k < w.heap.size) (hsm : ss.length ≤ 64) (hot : ∃ a l c, v0 = .slice a l c) (hwv : ∃ a l c, wv = .slice a l c) :
    Calls Tryd.prog 49 #[.agg #[.int .u64 root, v0, v1], .int .i64 i, .agg #[.int .i64 5, .int .i64 ce, .int .u64 aa, .int .u64 ab, xv, wv]] w fun e w' => ∃ v', e = .returned (.tuple #[.agg #[.int .u64 root, v0, v'], .agg #[.int .u64 0, .slice none 0 0, .bool false]]) ∧ Same [] w w' ∧ RStrs M w' v' (ss.modify i (fun s => appendM s xs)) := by
  obtain ⟨oa, ol, oc, rfl⟩ := hot
  obtain ⟨wa, wl, wc, rfl⟩ := hwv
  obtain ⟨ma, ml, mc, rfl⟩ : ∃ a l c, v1 = .slice a l c := by obtain ⟨_, _, h, _⟩ := hv; exact h.form
  obtain ⟨xa, xl, xc, rfl⟩ := hx.form
  have HV := hid hv; have HS := hid hs; have HM := hid hM; have HSM := hid hsm; have HR := hid hr; have HX := hid hx; have HF := hid hfit
  clear hv hs hM hsm hr hx hfit
  go_enter Tryd.func49, Tryd.ntmps49
  go_wp2_with fail
  refine calls_gen fun W hW => ?_
  have hsame : Same [] w W := by rw [hW]; (repeat refine Same.alloc ?_ _); exact Same.refl _ _
  have b0 : W.heap[w.heap.size]? = some (.cells #[.int .u64 root, .slice oa ol oc, .slice ma ml mc] 31 (0, 0)) := by rw [hW]; exact block_old (block_old (block_old (block_new _ _)))
  have b1 : W.heap[w.heap.size + 1]? = some (.cells #[.int .i64 5, .int .i64 ce, .int .u64 aa, .int .u64 ab, .slice xa xl xc, .slice wa wl wc] 73 (0, 0)) := by rw [hW]; exact block_old (block_old (block_at (by simp)))
  have b2 : W.heap[w.heap.size + 1 + 1]? = some (.cells #[.int .u64 0, .slice none 0 0, .slice none 0 0] 31 (0, 0)) := by rw [hW]; exact block_old (block_at (by simp))
  have b3 : W.heap[w.heap.size + 1 + 1 + 1]? = some (.cells #[.int .u64 0, .slice none 0 0, .bool false] 77 (0, 0)) := by rw [hW]; exact block_at (by simp)
  clear hW
  refine (Row_any1 HR.out).mono ?_
  rintro _ w1 ⟨rfl, hs1⟩
  have c0 := (hs1.block _ (lt_of_some b0) (by simp)).trans b0
  have c1 := (hs1.block _ (lt_of_some b1) (by simp)).trans b1
  have c2 := (hs1.block _ (lt_of_some b2) (by simp)).trans b2
  have c3 := (hs1.block _ (lt_of_some b3) (by simp)).trans b3
  have l0 := lt_of_some c0
  have l1 := lt_of_some c1
  obtain ⟨x0, x1, x2⟩ := cells3 c0
  obtain ⟨a0, a1, a2, a3, a4, a5⟩ := cells6 c1
  have C0 := hid c0; have C2 := hid c2; have C3 := hid c3; have S1 := hid (hsame.then hs1)
  clear b0 b1 b2 b3 c0 c1 c2 c3 hs1 hsame
  go_wp2_with fail
  refine calls_gen fun W2 hW2 => ?_
  have s2 : Same [] w1 W2 := by rw [hW2]; (repeat refine Same.alloc ?_ _); exact Same.refl _ _
  have b4 : W2.heap[w1.heap.size]? = some (.cells #[.int .u64 0, .slice none 0 0, .bool false] 77 (0, 0)) := by rw [hW2]; exact block_new _ _
  clear hW2
  have c0 := (s2.block _ (lt_of_some C0.out) (by simp)).trans C0.out
  have c2 := (s2.block _ (lt_of_some C2.out) (by simp)).trans C2.out
  have c3 := (s2.block _ (lt_of_some C3.out) (by simp)).trans C3.out
  have l3 := lt_of_some C3.out
  have S2 := hid (S1.out.then s2)
  have hz1 := S1.out.size
  have hgr : ∀ x, x ∈ w.heap.size :: (w.heap.size + 1 + 1) :: (w.heap.size + 1 + 1 + 1) :: M → x ∈ M ∨ w.heap.size ≤ x := fun x hx => by simp at hx; rcases hx with h | h | h | h <;> first | exact .inl h | (right; omega)
  have hlt : ∀ k, k ∈ w.heap.size :: (w.heap.size + 1 + 1) :: (w.heap.size + 1 + 1 + 1) :: M → k < W2.heap.size := fun k hk => by
    have q1 := lt_of_some c3
    simp at hk; rcases hk with h | h | h | h <;> first | omega | (have := HM.out k h; have := S2.out.size; omega)
  refine (disk_Append1 (M := w.heap.size :: (w.heap.size + 1 + 1) :: (w.heap.size + 1 + 1 + 1) :: M) (HX.out.same S2.out (by simp)) HF.out ((HV.out.grow hgr).same S2.out (by simp)) HS.out hlt HSM.out ⟨_, _, _, rfl⟩).mono ?_
  rintro _ w3 ⟨v', rfl, hs3, hv'⟩
  obtain ⟨na, nl, nc, rfl⟩ : ∃ a l c, v' = .slice a l c := by obtain ⟨_, _, h, _⟩ := hv'; exact h.form
  have d0 := (hs3.block _ (lt_of_some c0) (by simp)).trans c0
  have d2 := (hs3.block _ (lt_of_some c2) (by simp)).trans c2
  have d3 := (hs3.block _ (lt_of_some c3) (by simp)).trans c3
  have d4 := (hs3.block _ (lt_of_some b4) (by simp)).trans b4
  have g0 := fun o => frozen_of_block (o := o) d0
  clear x0 x1 x2 a0 a1 a2 a3 a4 a5
  obtain ⟨x0, x1, x2⟩ := cells3 d0
  have D0 := hid d0; have D2 := hid d2; have D3 := hid d3; have D4 := hid d4; have HV' := hid hv'; have S3 := hid (S2.out.then hs3)
  clear d0 d2 d3 d4 hv' hs3 c0 c2 c3 b4 s2 hgr hlt C0 C2 C3
  go_wp2_with fail
  refine wp_gen fun W4 hW4 => ?_
  have s4 : Same [w.heap.size] w3 W4 := by rw [hW4]; exact (((Same.refl _ _).set (.inl (by simp))).set (.inl (by simp))).set (.inl (by simp))
  have e0 : W4.heap[w.heap.size]? = some (.cells #[.int .u64 root, .slice oa ol oc, .slice na nl nc] 31 (0, 0)) := by rw [hW4]; simp [set_at, D0.out]
  have e2 := (s4.block _ (lt_of_some D2.out) (by simp; omega)).trans D2.out
  have e3 := (s4.block _ (lt_of_some D3.out) (by simp; omega)).trans D3.out
  have e4 := (s4.block _ (lt_of_some D4.out) (by simp; omega)).trans D4.out
  clear hW4 x0 x1 x2 g0
  have g2 := fun o => frozen_of_block (o := o) e2
  have g3 := fun o => frozen_of_block (o := o) e3
  obtain ⟨x0, x1, x2⟩ := cells3 e0
  obtain ⟨y0, y1, y2⟩ := cells3 e2
  obtain ⟨z0, z1, z2⟩ := cells3 e3
  obtain ⟨u0, u1, u2⟩ := cells3 e4
  have E2 := hid e2; have E3 := hid e3; have S4 := hid s4
  have n1 : ¬ w1.heap.size = w.heap.size + 1 + 1 := by omega
  have n2 : ¬ w1.heap.size = w.heap.size + 1 + 1 + 1 := by omega
  have n1' : ¬ w.heap.size + 1 + 1 = w1.heap.size := by omega
  have n2' : ¬ w.heap.size + 1 + 1 + 1 = w1.heap.size := by omega
  clear e0 e2 e3 e4 s4
  go_region
  all_goals go_wp2_with fail
  all_goals refine post_gen fun W6 hW6 => ?_
  all_goals have k23 : ¬ w.heap.size + 1 + 1 = w.heap.size + 1 + 1 + 1 := by omega
  all_goals have k32 : ¬ w.heap.size + 1 + 1 + 1 = w.heap.size + 1 + 1 := by omega
  all_goals have t6 : Same [w.heap.size + 1 + 1, w.heap.size + 1 + 1 + 1] W4 W6 := by rw [hW6]; refine Same.drew ?_; (repeat refine Same.set ?_ (.inl (by simp))); exact Same.refl _ _
  all_goals have h2 : W6.heap[w.heap.size + 1 + 1]? = some (.cells #[.int .u64 root, .slice oa ol oc, .slice na nl nc] 31 (0, 0)) := by rw [hW6, show ∀ x : World, x.drew.heap = x.heap from fun _ => rfl]; simp only [block_set_other k23]; simp [set_at, E2.out]
  all_goals have h3 : W6.heap[w.heap.size + 1 + 1 + 1]? = some (.cells #[.int .u64 0, .slice none 0 0, .bool false] 77 (0, 0)) := by rw [hW6, show ∀ x : World, x.drew.heap = x.heap from fun _ => rfl]; simp [set_at, block_set_other k32, E3.out]
  all_goals clear hW6 x0 x1 x2 y0 y1 y2 z0 z1 z2 u0 u1 u2 g2 g3
  all_goals obtain ⟨y0, y1, y2⟩ := cells3 h2
  all_goals obtain ⟨z0, z1, z2⟩ := cells3 h3
  all_goals refine bodyPost_ret (v := .tuple #[.agg #[.int .u64 root, .slice oa ol oc, .slice na nl nc], .agg #[.int .u64 0, .slice none 0 0, .bool false]]) (by simp [results, Tryd.results49, go_sem, y0, y1, y2, z0, z1, z2]) rfl ?_
  all_goals have t36 : Same [w.heap.size, w.heap.size + 1 + 1, w.heap.size + 1 + 1 + 1] w3 W6 := (S4.out.mono (fun x hx => .inl (by simp at hx; simp [hx]))).trans t6 (fun x hx => .inl (by simp at hx; rcases hx with h | h <;> simp [h]))
  all_goals refine ⟨_, rfl, S3.out.trans t36 (fun x hx => .inr (by simp at hx; omega)), ?_⟩
  all_goals exact (HV'.out.same t36 (fun x hx => by simp at hx; rcases hx with h | h | h <;> simp [h])).grow (fun x hx => .inl (by simp [hx]))

theorem streams6_0 {M : List Nat} {w : World} {root i : Nat} {v0 v1 xv wv : Value} {ss : List StreamM} {s : StreamM} {ce : Int} {aa ab : Nat} (hxf : ∃ a l c, xv = .slice a l c) (hr : root % 2 = 0) (hv : RStrs M w v0 ss) (hs : ss[i]? = some s) (hM : ∀ k, k ∈ M → k < w.heap.size) (hsm : ss.length ≤ 64) (hot : ∃ a l c, v1 = .slice a l c) (hwv : ∃ a l c, wv = .slice a l c) :
    Calls Tryd.prog 49 #[.agg #[.int .u64 root, v0, v1], .int .i64 i, .agg #[.int .i64 6, .int .i64 ce, .int .u64 aa, .int .u64 ab, xv, wv]] w fun e w' => ∃ v', e = .returned (.tuple #[.agg #[.int .u64 root, v', v1], .agg #[.int .u64 0, .slice none 0 0, .bool false]]) ∧ Same [] w w' ∧ RStrs M w' v' (ss.modify i syncM) := by
  obtain ⟨oa, ol, oc, rfl⟩ := hot
  obtain ⟨wa, wl, wc, rfl⟩ := hwv
  obtain ⟨ma, ml, mc, rfl⟩ : ∃ a l c, v0 = .slice a l c := by obtain ⟨_, _, h, _⟩ := hv; exact h.form
  obtain ⟨xa, xl, xc, rfl⟩ := hxf
  have HV := hid hv; have HS := hid hs; have HM := hid hM; have HSM := hid hsm; have HR := hid hr
  clear hv hs hM hsm hr
  go_enter Tryd.func49, Tryd.ntmps49
  go_wp2_with fail
  refine calls_gen fun W hW => ?_
  have hsame : Same [] w W := by rw [hW]; (repeat refine Same.alloc ?_ _); exact Same.refl _ _
  have b0 : W.heap[w.heap.size]? = some (.cells #[.int .u64 root, .slice ma ml mc, .slice oa ol oc] 31 (0, 0)) := by rw [hW]; exact block_old (block_old (block_old (block_new _ _)))
  have b1 : W.heap[w.heap.size + 1]? = some (.cells #[.int .i64 6, .int .i64 ce, .int .u64 aa, .int .u64 ab, .slice xa xl xc, .slice wa wl wc] 73 (0, 0)) := by rw [hW]; exact block_old (block_old (block_at (by simp)))
  have b2 : W.heap[w.heap.size + 1 + 1]? = some (.cells #[.int .u64 0, .slice none 0 0, .slice none 0 0] 31 (0, 0)) := by rw [hW]; exact block_old (block_at (by simp))
  have b3 : W.heap[w.heap.size + 1 + 1 + 1]? = some (.cells #[.int .u64 0, .slice none 0 0, .bool false] 77 (0, 0)) := by rw [hW]; exact block_at (by simp)
  clear hW
  refine (Row_any0 HR.out).mono ?_
  rintro _ w1 ⟨rfl, hs1⟩
  have c0 := (hs1.block _ (lt_of_some b0) (by simp)).trans b0
  have c1 := (hs1.block _ (lt_of_some b1) (by simp)).trans b1
  have c2 := (hs1.block _ (lt_of_some b2) (by simp)).trans b2
  have c3 := (hs1.block _ (lt_of_some b3) (by simp)).trans b3
  have l0 := lt_of_some c0
  have l1 := lt_of_some c1
  obtain ⟨x0, x1, x2⟩ := cells3 c0
  obtain ⟨a0, a1, a2, a3, a4, a5⟩ := cells6 c1
  have C0 := hid c0; have C2 := hid c2; have C3 := hid c3; have S1 := hid (hsame.then hs1)
  clear b0 b1 b2 b3 c0 c1 c2 c3 hs1 hsame
  go_wp2_with fail
  refine calls_gen fun W2 hW2 => ?_
  have s2 : Same [] w1 W2 := by rw [hW2]; (repeat refine Same.alloc ?_ _); exact Same.refl _ _
  have b4 : W2.heap[w1.heap.size]? = some (.cells #[.int .u64 0, .slice none 0 0, .bool false] 77 (0, 0)) := by rw [hW2]; exact block_new _ _
  clear hW2
  have c0 := (s2.block _ (lt_of_some C0.out) (by simp)).trans C0.out
  have c2 := (s2.block _ (lt_of_some C2.out) (by simp)).trans C2.out
  have c3 := (s2.block _ (lt_of_some C3.out) (by simp)).trans C3.out
  have l3 := lt_of_some C3.out
  have S2 := hid (S1.out.then s2)
  have hz1 := S1.out.size
  have hgr : ∀ x, x ∈ w.heap.size :: (w.heap.size + 1 + 1) :: (w.heap.size + 1 + 1 + 1) :: M → x ∈ M ∨ w.heap.size ≤ x := fun x hx => by simp at hx; rcases hx with h | h | h | h <;> first | exact .inl h | (right; omega)
  have hlt : ∀ k, k ∈ w.heap.size :: (w.heap.size + 1 + 1) :: (w.heap.size + 1 + 1 + 1) :: M → k < W2.heap.size := fun k hk => by
    have q1 := lt_of_some c3
    simp at hk; rcases hk with h | h | h | h <;> first | omega | (have := HM.out k h; have := S2.out.size; omega)
  refine (disk_Sync0 (M := w.heap.size :: (w.heap.size + 1 + 1) :: (w.heap.size + 1 + 1 + 1) :: M) ((HV.out.grow hgr).same S2.out (by simp)) HS.out hlt HSM.out ⟨_, _, _, rfl⟩).mono ?_
  rintro _ w3 ⟨v', rfl, hs3, hv'⟩
  obtain ⟨na, nl, nc, rfl⟩ : ∃ a l c, v' = .slice a l c := by obtain ⟨_, _, h, _⟩ := hv'; exact h.form
  have d0 := (hs3.block _ (lt_of_some c0) (by simp)).trans c0
  have d2 := (hs3.block _ (lt_of_some c2) (by simp)).trans c2
  have d3 := (hs3.block _ (lt_of_some c3) (by simp)).trans c3
  have d4 := (hs3.block _ (lt_of_some b4) (by simp)).trans b4
  have g0 := fun o => frozen_of_block (o := o) d0
  clear x0 x1 x2 a0 a1 a2 a3 a4 a5
  obtain ⟨x0, x1, x2⟩ := cells3 d0
  have D0 := hid d0; have D2 := hid d2; have D3 := hid d3; have D4 := hid d4; have HV' := hid hv'; have S3 := hid (S2.out.then hs3)
  clear d0 d2 d3 d4 hv' hs3 c0 c2 c3 b4 s2 hgr hlt C0 C2 C3
  go_wp2_with fail
  refine wp_gen fun W4 hW4 => ?_
  have s4 : Same [w.heap.size] w3 W4 := by rw [hW4]; exact (((Same.refl _ _).set (.inl (by simp))).set (.inl (by simp))).set (.inl (by simp))
  have e0 : W4.heap[w.heap.size]? = some (.cells #[.int .u64 root, .slice na nl nc, .slice oa ol oc] 31 (0, 0)) := by rw [hW4]; simp [set_at, D0.out]
  have e2 := (s4.block _ (lt_of_some D2.out) (by simp; omega)).trans D2.out
  have e3 := (s4.block _ (lt_of_some D3.out) (by simp; omega)).trans D3.out
  have e4 := (s4.block _ (lt_of_some D4.out) (by simp; omega)).trans D4.out
  clear hW4 x0 x1 x2 g0
  have g2 := fun o => frozen_of_block (o := o) e2
  have g3 := fun o => frozen_of_block (o := o) e3
  obtain ⟨x0, x1, x2⟩ := cells3 e0
  obtain ⟨y0, y1, y2⟩ := cells3 e2
  obtain ⟨z0, z1, z2⟩ := cells3 e3
  obtain ⟨u0, u1, u2⟩ := cells3 e4
  have E2 := hid e2; have E3 := hid e3; have S4 := hid s4
  have n1 : ¬ w1.heap.size = w.heap.size + 1 + 1 := by omega
  have n2 : ¬ w1.heap.size = w.heap.size + 1 + 1 + 1 := by omega
  have n1' : ¬ w.heap.size + 1 + 1 = w1.heap.size := by omega
  have n2' : ¬ w.heap.size + 1 + 1 + 1 = w1.heap.size := by omega
  clear e0 e2 e3 e4 s4
  go_region
  all_goals go_wp2_with fail
  all_goals refine post_gen fun W6 hW6 => ?_
  all_goals have k23 : ¬ w.heap.size + 1 + 1 = w.heap.size + 1 + 1 + 1 := by omega
  all_goals have k32 : ¬ w.heap.size + 1 + 1 + 1 = w.heap.size + 1 + 1 := by omega
  all_goals have t6 : Same [w.heap.size + 1 + 1, w.heap.size + 1 + 1 + 1] W4 W6 := by rw [hW6]; refine Same.drew ?_; (repeat refine Same.set ?_ (.inl (by simp))); exact Same.refl _ _
  all_goals have h2 : W6.heap[w.heap.size + 1 + 1]? = some (.cells #[.int .u64 root, .slice na nl nc, .slice oa ol oc] 31 (0, 0)) := by rw [hW6, show ∀ x : World, x.drew.heap = x.heap from fun _ => rfl]; simp only [block_set_other k23]; simp [set_at, E2.out]
  all_goals have h3 : W6.heap[w.heap.size + 1 + 1 + 1]? = some (.cells #[.int .u64 0, .slice none 0 0, .bool false] 77 (0, 0)) := by rw [hW6, show ∀ x : World, x.drew.heap = x.heap from fun _ => rfl]; simp [set_at, block_set_other k32, E3.out]
  all_goals clear hW6 x0 x1 x2 y0 y1 y2 z0 z1 z2 u0 u1 u2 g2 g3
  all_goals obtain ⟨y0, y1, y2⟩ := cells3 h2
  all_goals obtain ⟨z0, z1, z2⟩ := cells3 h3
  all_goals refine bodyPost_ret (v := .tuple #[.agg #[.int .u64 root, .slice na nl nc, .slice oa ol oc], .agg #[.int .u64 0, .slice none 0 0, .bool false]]) (by simp [results, Tryd.results49, go_sem, y0, y1, y2, z0, z1, z2]) rfl ?_
  all_goals have t36 : Same [w.heap.size, w.heap.size + 1 + 1, w.heap.size + 1 + 1 + 1] w3 W6 := (S4.out.mono (fun x hx => .inl (by simp at hx; simp [hx]))).trans t6 (fun x hx => .inl (by simp at hx; rcases hx with h | h <;> simp [h]))
  all_goals refine ⟨_, rfl, S3.out.trans t36 (fun x hx => .inr (by simp at hx; omega)), ?_⟩
  all_goals exact (HV'.out.same t36 (fun x hx => by simp at hx; rcases hx with h | h | h <;> simp [h])).grow (fun x hx => .inl (by simp [hx]))

theorem streams6_1 {M : List Nat} {w : World} {root i : Nat} {v1 v0 xv wv : Value} {ss : List StreamM} {s : StreamM} {ce : Int} {aa ab : Nat} (hxf : ∃ a l c, xv = .slice a l c) (hr : root % 2 = 1) (hv : RStrs M w v1 ss) (hs : ss[i]? = some s) (hM : ∀ k, k ∈ M → k < w.heap.size) (hsm : ss.length ≤ 64) (hot : ∃ a l c, v0 = .slice a l c) (hwv : ∃ a l c, wv = .slice a l c) :
    Calls Tryd.prog 49 #[.agg #[.int .u64 root, v0, v1], .int .i64 i, .agg #[.int .i64 6, .int .i64 ce, .int .u64 aa, .int .u64 ab, xv, wv]] w fun e w' => ∃ v', e = .returned (.tuple #[.agg #[.int .u64 root, v0, v'], .agg #[.int .u64 0, .slice none 0 0, .bool false]]) ∧ Same [] w w' ∧ RStrs M w' v' (ss.modify i syncM) := by
  obtain ⟨oa, ol, oc, rfl⟩ := hot
  obtain ⟨wa, wl, wc, rfl⟩ := hwv
  obtain ⟨ma, ml, mc, rfl⟩ : ∃ a l c, v1 = .slice a l c := by obtain ⟨_, _, h, _⟩ := hv; exact h.form
  obtain ⟨xa, xl, xc, rfl⟩ := hxf
  have HV := hid hv; have HS := hid hs; have HM := hid hM; have HSM := hid hsm; have HR := hid hr
  clear hv hs hM hsm hr
  go_enter Tryd.func49, Tryd.ntmps49
  go_wp2_with fail
  refine calls_gen fun W hW => ?_
  have hsame : Same [] w W := by rw [hW]; (repeat refine Same.alloc ?_ _); exact Same.refl _ _
  have b0 : W.heap[w.heap.size]? = some (.cells #[.int .u64 root, .slice oa ol oc, .slice ma ml mc] 31 (0, 0)) := by rw [hW]; exact block_old (block_old (block_old (block_new _ _)))
  have b1 : W.heap[w.heap.size + 1]? = some (.cells #[.int .i64 6, .int .i64 ce, .int .u64 aa, .int .u64 ab, .slice xa xl xc, .slice wa wl wc] 73 (0, 0)) := by rw [hW]; exact block_old (block_old (block_at (by simp)))
  have b2 : W.heap[w.heap.size + 1 + 1]? = some (.cells #[.int .u64 0, .slice none 0 0, .slice none 0 0] 31 (0, 0)) := by rw [hW]; exact block_old (block_at (by simp))
  have b3 : W.heap[w.heap.size + 1 + 1 + 1]? = some (.cells #[.int .u64 0, .slice none 0 0, .bool false] 77 (0, 0)) := by rw [hW]; exact block_at (by simp)
  clear hW
  refine (Row_any1 HR.out).mono ?_
  rintro _ w1 ⟨rfl, hs1⟩
  have c0 := (hs1.block _ (lt_of_some b0) (by simp)).trans b0
  have c1 := (hs1.block _ (lt_of_some b1) (by simp)).trans b1
  have c2 := (hs1.block _ (lt_of_some b2) (by simp)).trans b2
  have c3 := (hs1.block _ (lt_of_some b3) (by simp)).trans b3
  have l0 := lt_of_some c0
  have l1 := lt_of_some c1
  obtain ⟨x0, x1, x2⟩ := cells3 c0
  obtain ⟨a0, a1, a2, a3, a4, a5⟩ := cells6 c1
  have C0 := hid c0; have C2 := hid c2; have C3 := hid c3; have S1 := hid (hsame.then hs1)
  clear b0 b1 b2 b3 c0 c1 c2 c3 hs1 hsame
  go_wp2_with fail
  refine calls_gen fun W2 hW2 => ?_
  have s2 : Same [] w1 W2 := by rw [hW2]; (repeat refine Same.alloc ?_ _); exact Same.refl _ _
  have b4 : W2.heap[w1.heap.size]? = some (.cells #[.int .u64 0, .slice none 0 0, .bool false] 77 (0, 0)) := by rw [hW2]; exact block_new _ _
  clear hW2
  have c0 := (s2.block _ (lt_of_some C0.out) (by simp)).trans C0.out
  have c2 := (s2.block _ (lt_of_some C2.out) (by simp)).trans C2.out
  have c3 := (s2.block _ (lt_of_some C3.out) (by simp)).trans C3.out
  have l3 := lt_of_some C3.out
  have S2 := hid (S1.out.then s2)
  have hz1 := S1.out.size
  have hgr : ∀ x, x ∈ w.heap.size :: (w.heap.size + 1 + 1) :: (w.heap.size + 1 + 1 + 1) :: M → x ∈ M ∨ w.heap.size ≤ x := fun x hx => by simp at hx; rcases hx with h | h | h | h <;> first | exact .inl h | (right; omega)
  have hlt : ∀ k, k ∈ w.heap.size :: (w.heap.size + 1 + 1) :: (w.heap.size + 1 + 1 + 1) :: M → k < W2.heap.size := fun k hk => by
    have q1 := lt_of_some c3
    simp at hk; rcases hk with h | h | h | h <;> first | omega | (have := HM.out k h; have := S2.out.size; omega)
  refine (disk_Sync1 (M := w.heap.size :: (w.heap.size + 1 + 1) :: (w.heap.size + 1 + 1 + 1) :: M) ((HV.out.grow hgr).same S2.out (by simp)) HS.out hlt HSM.out ⟨_, _, _, rfl⟩).mono ?_
  rintro _ w3 ⟨v', rfl, hs3, hv'⟩
  obtain ⟨na, nl, nc, rfl⟩ : ∃ a l c, v' = .slice a l c := by obtain ⟨_, _, h, _⟩ := hv'; exact h.form
  have d0 := (hs3.block _ (lt_of_some c0) (by simp)).trans c0
  have d2 := (hs3.block _ (lt_of_some c2) (by simp)).trans c2
  have d3 := (hs3.block _ (lt_of_some c3) (by simp)).trans c3
  have d4 := (hs3.block _ (lt_of_some b4) (by simp)).trans b4
  have g0 := fun o => frozen_of_block (o := o) d0
  clear x0 x1 x2 a0 a1 a2 a3 a4 a5
  obtain ⟨x0, x1, x2⟩ := cells3 d0
  have D0 := hid d0; have D2 := hid d2; have D3 := hid d3; have D4 := hid d4; have HV' := hid hv'; have S3 := hid (S2.out.then hs3)
  clear d0 d2 d3 d4 hv' hs3 c0 c2 c3 b4 s2 hgr hlt C0 C2 C3
  go_wp2_with fail
  refine wp_gen fun W4 hW4 => ?_
  have s4 : Same [w.heap.size] w3 W4 := by rw [hW4]; exact (((Same.refl _ _).set (.inl (by simp))).set (.inl (by simp))).set (.inl (by simp))
  have e0 : W4.heap[w.heap.size]? = some (.cells #[.int .u64 root, .slice oa ol oc, .slice na nl nc] 31 (0, 0)) := by rw [hW4]; simp [set_at, D0.out]
  have e2 := (s4.block _ (lt_of_some D2.out) (by simp; omega)).trans D2.out
  have e3 := (s4.block _ (lt_of_some D3.out) (by simp; omega)).trans D3.out
  have e4 := (s4.block _ (lt_of_some D4.out) (by simp; omega)).trans D4.out
  clear hW4 x0 x1 x2 g0
  have g2 := fun o => frozen_of_block (o := o) e2
  have g3 := fun o => frozen_of_block (o := o) e3
  obtain ⟨x0, x1, x2⟩ := cells3 e0
  obtain ⟨y0, y1, y2⟩ := cells3 e2
  obtain ⟨z0, z1, z2⟩ := cells3 e3
  obtain ⟨u0, u1, u2⟩ := cells3 e4
  have E2 := hid e2; have E3 := hid e3; have S4 := hid s4
  have n1 : ¬ w1.heap.size = w.heap.size + 1 + 1 := by omega
  have n2 : ¬ w1.heap.size = w.heap.size + 1 + 1 + 1 := by omega
  have n1' : ¬ w.heap.size + 1 + 1 = w1.heap.size := by omega
  have n2' : ¬ w.heap.size + 1 + 1 + 1 = w1.heap.size := by omega
  clear e0 e2 e3 e4 s4
  go_region
  all_goals go_wp2_with fail
  all_goals refine post_gen fun W6 hW6 => ?_
  all_goals have k23 : ¬ w.heap.size + 1 + 1 = w.heap.size + 1 + 1 + 1 := by omega
  all_goals have k32 : ¬ w.heap.size + 1 + 1 + 1 = w.heap.size + 1 + 1 := by omega
  all_goals have t6 : Same [w.heap.size + 1 + 1, w.heap.size + 1 + 1 + 1] W4 W6 := by rw [hW6]; refine Same.drew ?_; (repeat refine Same.set ?_ (.inl (by simp))); exact Same.refl _ _
  all_goals have h2 : W6.heap[w.heap.size + 1 + 1]? = some (.cells #[.int .u64 root, .slice oa ol oc, .slice na nl nc] 31 (0, 0)) := by rw [hW6, show ∀ x : World, x.drew.heap = x.heap from fun _ => rfl]; simp only [block_set_other k23]; simp [set_at, E2.out]
  all_goals have h3 : W6.heap[w.heap.size + 1 + 1 + 1]? = some (.cells #[.int .u64 0, .slice none 0 0, .bool false] 77 (0, 0)) := by rw [hW6, show ∀ x : World, x.drew.heap = x.heap from fun _ => rfl]; simp [set_at, block_set_other k32, E3.out]
  all_goals clear hW6 x0 x1 x2 y0 y1 y2 z0 z1 z2 u0 u1 u2 g2 g3
  all_goals obtain ⟨y0, y1, y2⟩ := cells3 h2
  all_goals obtain ⟨z0, z1, z2⟩ := cells3 h3
  all_goals refine bodyPost_ret (v := .tuple #[.agg #[.int .u64 root, .slice oa ol oc, .slice na nl nc], .agg #[.int .u64 0, .slice none 0 0, .bool false]]) (by simp [results, Tryd.results49, go_sem, y0, y1, y2, z0, z1, z2]) rfl ?_
  all_goals have t36 : Same [w.heap.size, w.heap.size + 1 + 1, w.heap.size + 1 + 1 + 1] w3 W6 := (S4.out.mono (fun x hx => .inl (by simp at hx; simp [hx]))).trans t6 (fun x hx => .inl (by simp at hx; rcases hx with h | h <;> simp [h]))
  all_goals refine ⟨_, rfl, S3.out.trans t36 (fun x hx => .inr (by simp at hx; omega)), ?_⟩
  all_goals exact (HV'.out.same t36 (fun x hx => by simp at hx; rcases hx with h | h | h <;> simp [h])).grow (fun x hx => .inl (by simp [hx]))
end Go.Proofs.YtdfeinfaljidgaaDoor
