/- disk.Append, disk.Sync for both rows. -/
import Derived.Test.YtdfeinfaljidgaaDoorStream
namespace Go.Proofs.YtdfeinfaljidgaaDoor
open Go Go.RowKit

theorem disk_Append0 {M : List Nat} {w : World} {root i : Nat} {v0 v1 : Value} {ss : List StreamM} {s : StreamM} {xv : Value} {xs : List UInt8} (hx : Bytes [] w xv xs) (hfit : s.data.length + xs.length ≤ 1000000000) (hv : RStrs M w v0 ss) (hs : ss[i]? = some s) (hM : ∀ k, k ∈ M → k < w.heap.size) (hsm : ss.length ≤ 64) (hot : ∃ a l c, v1 = .slice a l c) :
    Calls Tryd.prog 62 #[.agg #[.int .u64 root, v0, v1], .int .i64 0, .int .i64 i, xv] w fun e w' => ∃ v', e = .returned (.tuple #[.agg #[.int .u64 root, v', v1], .int .i64 0]) ∧ Same [] w w' ∧ RStrs M w' v' (ss.modify i (fun s => appendM s xs)) := by
  have hmf : ∀ (fn : Fn) (first cap : Array Value) (w : World), (Instr.makeFunc fn first cap).run Tryd.prog w = .ok (.func fn first cap) w := fun _ _ _ _ => rfl
  obtain ⟨oa, ol, oc, rfl⟩ := hot
  obtain ⟨ma, ml, mc, rfl⟩ : ∃ a l c, v0 = .slice a l c := by obtain ⟨_, _, h, _⟩ := hv; exact h.form
  obtain ⟨xa, xl, xc, rfl⟩ := hx.form
  have HV := hid hv; have HS := hid hs; have HM := hid hM; have HSM := hid hsm; have HX := hid hx; have HF := hid hfit
  clear hv hs hM hsm hx hfit
  go_enter Tryd.func62, Tryd.ntmps62
  go_wp2_with fail
  refine calls_gen fun W hW => ?_
  have hsame : Same [] w W := by rw [hW]; (repeat refine Same.alloc ?_ _); exact Same.refl _ _
  have b1 : W.heap[w.heap.size + 1]? = some (.cells #[.slice xa xl xc] 22 (0, 0)) := by rw [hW]; exact block_old (block_at (by simp))
  have b2 : W.heap[w.heap.size + 1 + 1]? = some (.cells #[.int .u64 0, .slice none 0 0, .slice none 0 0] 31 (0, 0)) := by rw [hW]; exact block_at (by simp)
  clear hW
  have hgr : ∀ x, x ∈ (w.heap.size + 1 + 1) :: M → x ∈ M ∨ w.heap.size ≤ x := fun x hx => by simp at hx; rcases hx with h | h <;> first | exact .inl h | (right; omega)
  have hlt : ∀ k, k ∈ (w.heap.size + 1 + 1) :: M → k < W.heap.size := fun k hk => by
    have q1 := lt_of_some b2
    simp at hk; rcases hk with h | h
    · omega
    · have := HM.out k h; have := hsame.size; omega
  refine (turn_any0 (M := (w.heap.size + 1 + 1) :: M) (F := (fun s => appendM s xs)) (fun _ _ => by kernel_rfl) ((HV.out.grow hgr).same hsame (by simp)) HS.out hlt HSM.out (append_by b1 (HX.out.same hsame (by simp)) HF.out) ⟨_, _, _, rfl⟩).mono ?_
  rintro _ w1 ⟨v', rfl, hs1, hv'⟩
  obtain ⟨na, nl, nc, rfl⟩ : ∃ a l c, v' = .slice a l c := by obtain ⟨_, _, h, _⟩ := hv'; exact h.form
  have c2 := (hs1.block _ (lt_of_some b2) (by simp)).trans b2
  have g2 := fun o => frozen_of_block (o := o) c2
  obtain ⟨y0, y1, y2⟩ := cells3 c2
  have C2 := hid c2; have HV' := hid hv'; have HS1 := hid (hsame.then hs1); clear c2 hv' hs1 hsame b1 b2 hlt hgr
  go_wp2_with fail
  refine post_gen fun W6 hW6 => ?_
  have t6 : Same [w.heap.size + 1 + 1] w1 W6 := by rw [hW6]; exact (((Same.refl _ _).set (.inl (by simp))).set (.inl (by simp))).set (.inl (by simp))
  have e2 : W6.heap[w.heap.size + 1 + 1]? = some (.cells #[.int .u64 root, .slice na nl nc, .slice oa ol oc] 31 (0, 0)) := by rw [hW6]; simp [set_at, C2.out]
  clear hW6 y0 y1 y2 g2
  obtain ⟨y0, y1, y2⟩ := cells3 e2
  refine bodyPost_ret (v := .tuple #[.agg #[.int .u64 root, .slice na nl nc, .slice oa ol oc], .int .i64 0]) (by simp [results, Tryd.results62, go_sem, y0, y1, y2]) rfl ?_
  refine ⟨_, rfl, HS1.out.trans t6 (fun x hx => .inr (by simp at hx; omega)), ?_⟩
  exact (HV'.out.same t6 (fun x hx => by simp at hx; simp [hx])).grow (fun x hx => .inl (by simp [hx]))

theorem disk_Append1 {M : List Nat} {w : World} {root i : Nat} {v1 v0 : Value} {ss : List StreamM} {s : StreamM} {xv : Value} {xs : List UInt8} (hx : Bytes [] w xv xs) (hfit : s.data.length + xs.length ≤ 1000000000) (hv : RStrs M w v1 ss) (hs : ss[i]? = some s) (hM : ∀ k, k ∈ M → k < w.heap.size) (hsm : ss.length ≤ 64) (hot : ∃ a l c, v0 = .slice a l c) :
    Calls Tryd.prog 62 #[.agg #[.int .u64 root, v0, v1], .int .i64 1, .int .i64 i, xv] w fun e w' => ∃ v', e = .returned (.tuple #[.agg #[.int .u64 root, v0, v'], .int .i64 0]) ∧ Same [] w w' ∧ RStrs M w' v' (ss.modify i (fun s => appendM s xs)) := by
  have hmf : ∀ (fn : Fn) (first cap : Array Value) (w : World), (Instr.makeFunc fn first cap).run Tryd.prog w = .ok (.func fn first cap) w := fun _ _ _ _ => rfl
  obtain ⟨oa, ol, oc, rfl⟩ := hot
  obtain ⟨ma, ml, mc, rfl⟩ : ∃ a l c, v1 = .slice a l c := by obtain ⟨_, _, h, _⟩ := hv; exact h.form
  obtain ⟨xa, xl, xc, rfl⟩ := hx.form
  have HV := hid hv; have HS := hid hs; have HM := hid hM; have HSM := hid hsm; have HX := hid hx; have HF := hid hfit
  clear hv hs hM hsm hx hfit
  go_enter Tryd.func62, Tryd.ntmps62
  go_wp2_with fail
  refine calls_gen fun W hW => ?_
  have hsame : Same [] w W := by rw [hW]; (repeat refine Same.alloc ?_ _); exact Same.refl _ _
  have b1 : W.heap[w.heap.size + 1]? = some (.cells #[.slice xa xl xc] 22 (0, 0)) := by rw [hW]; exact block_old (block_at (by simp))
  have b2 : W.heap[w.heap.size + 1 + 1]? = some (.cells #[.int .u64 0, .slice none 0 0, .slice none 0 0] 31 (0, 0)) := by rw [hW]; exact block_at (by simp)
  clear hW
  have hgr : ∀ x, x ∈ (w.heap.size + 1 + 1) :: M → x ∈ M ∨ w.heap.size ≤ x := fun x hx => by simp at hx; rcases hx with h | h <;> first | exact .inl h | (right; omega)
  have hlt : ∀ k, k ∈ (w.heap.size + 1 + 1) :: M → k < W.heap.size := fun k hk => by
    have q1 := lt_of_some b2
    simp at hk; rcases hk with h | h
    · omega
    · have := HM.out k h; have := hsame.size; omega
  refine (turn_any1 (M := (w.heap.size + 1 + 1) :: M) (F := (fun s => appendM s xs)) (fun _ _ => by kernel_rfl) ((HV.out.grow hgr).same hsame (by simp)) HS.out hlt HSM.out (append_by b1 (HX.out.same hsame (by simp)) HF.out) ⟨_, _, _, rfl⟩).mono ?_
  rintro _ w1 ⟨v', rfl, hs1, hv'⟩
  obtain ⟨na, nl, nc, rfl⟩ : ∃ a l c, v' = .slice a l c := by obtain ⟨_, _, h, _⟩ := hv'; exact h.form
  have c2 := (hs1.block _ (lt_of_some b2) (by simp)).trans b2
  have g2 := fun o => frozen_of_block (o := o) c2
  obtain ⟨y0, y1, y2⟩ := cells3 c2
  have C2 := hid c2; have HV' := hid hv'; have HS1 := hid (hsame.then hs1); clear c2 hv' hs1 hsame b1 b2 hlt hgr
  go_wp2_with fail
  refine post_gen fun W6 hW6 => ?_
  have t6 : Same [w.heap.size + 1 + 1] w1 W6 := by rw [hW6]; exact (((Same.refl _ _).set (.inl (by simp))).set (.inl (by simp))).set (.inl (by simp))
  have e2 : W6.heap[w.heap.size + 1 + 1]? = some (.cells #[.int .u64 root, .slice oa ol oc, .slice na nl nc] 31 (0, 0)) := by rw [hW6]; simp [set_at, C2.out]
  clear hW6 y0 y1 y2 g2
  obtain ⟨y0, y1, y2⟩ := cells3 e2
  refine bodyPost_ret (v := .tuple #[.agg #[.int .u64 root, .slice oa ol oc, .slice na nl nc], .int .i64 0]) (by simp [results, Tryd.results62, go_sem, y0, y1, y2]) rfl ?_
  refine ⟨_, rfl, HS1.out.trans t6 (fun x hx => .inr (by simp at hx; omega)), ?_⟩
  exact (HV'.out.same t6 (fun x hx => by simp at hx; simp [hx])).grow (fun x hx => .inl (by simp [hx]))

theorem disk_Sync0 {M : List Nat} {w : World} {root i : Nat} {v0 v1 : Value} {ss : List StreamM} {s : StreamM} (hv : RStrs M w v0 ss) (hs : ss[i]? = some s) (hM : ∀ k, k ∈ M → k < w.heap.size) (hsm : ss.length ≤ 64) (hot : ∃ a l c, v1 = .slice a l c) :
    Calls Tryd.prog 63 #[.agg #[.int .u64 root, v0, v1], .int .i64 0, .int .i64 i] w fun e w' => ∃ v', e = .returned (.tuple #[.agg #[.int .u64 root, v', v1], .int .i64 0]) ∧ Same [] w w' ∧ RStrs M w' v' (ss.modify i syncM) := by
  have hmf : ∀ (fn : Fn) (first cap : Array Value) (w : World), (Instr.makeFunc fn first cap).run Tryd.prog w = .ok (.func fn first cap) w := fun _ _ _ _ => rfl
  obtain ⟨oa, ol, oc, rfl⟩ := hot
  obtain ⟨ma, ml, mc, rfl⟩ : ∃ a l c, v0 = .slice a l c := by obtain ⟨_, _, h, _⟩ := hv; exact h.form
  skip
  have HV := hid hv; have HS := hid hs; have HM := hid hM; have HSM := hid hsm
  clear hv hs hM hsm
  go_enter Tryd.func63, Tryd.ntmps63
  go_wp2_with fail
  refine calls_gen fun W hW => ?_
  have hsame : Same [] w W := by rw [hW]; (repeat refine Same.alloc ?_ _); exact Same.refl _ _
  skip
  have b2 : W.heap[w.heap.size + 1]? = some (.cells #[.int .u64 0, .slice none 0 0, .slice none 0 0] 31 (0, 0)) := by rw [hW]; exact block_at (by simp)
  clear hW
  have hgr : ∀ x, x ∈ (w.heap.size + 1) :: M → x ∈ M ∨ w.heap.size ≤ x := fun x hx => by simp at hx; rcases hx with h | h <;> first | exact .inl h | (right; omega)
  have hlt : ∀ k, k ∈ (w.heap.size + 1) :: M → k < W.heap.size := fun k hk => by
    have q1 := lt_of_some b2
    simp at hk; rcases hk with h | h
    · omega
    · have := HM.out k h; have := hsame.size; omega
  refine (turn_any0 (M := (w.heap.size + 1) :: M) (F := syncM) (fun _ _ => by kernel_rfl) ((HV.out.grow hgr).same hsame (by simp)) HS.out hlt HSM.out sync_by ⟨_, _, _, rfl⟩).mono ?_
  rintro _ w1 ⟨v', rfl, hs1, hv'⟩
  obtain ⟨na, nl, nc, rfl⟩ : ∃ a l c, v' = .slice a l c := by obtain ⟨_, _, h, _⟩ := hv'; exact h.form
  have c2 := (hs1.block _ (lt_of_some b2) (by simp)).trans b2
  have g2 := fun o => frozen_of_block (o := o) c2
  obtain ⟨y0, y1, y2⟩ := cells3 c2
  have C2 := hid c2; have HV' := hid hv'; have HS1 := hid (hsame.then hs1); clear c2 hv' hs1 hsame b2 hlt hgr
  go_wp2_with fail
  refine post_gen fun W6 hW6 => ?_
  have t6 : Same [w.heap.size + 1] w1 W6 := by rw [hW6]; exact (((Same.refl _ _).set (.inl (by simp))).set (.inl (by simp))).set (.inl (by simp))
  have e2 : W6.heap[w.heap.size + 1]? = some (.cells #[.int .u64 root, .slice na nl nc, .slice oa ol oc] 31 (0, 0)) := by rw [hW6]; simp [set_at, C2.out]
  clear hW6 y0 y1 y2 g2
  obtain ⟨y0, y1, y2⟩ := cells3 e2
  refine bodyPost_ret (v := .tuple #[.agg #[.int .u64 root, .slice na nl nc, .slice oa ol oc], .int .i64 0]) (by simp [results, Tryd.results63, go_sem, y0, y1, y2]) rfl ?_
  refine ⟨_, rfl, HS1.out.trans t6 (fun x hx => .inr (by simp at hx; omega)), ?_⟩
  exact (HV'.out.same t6 (fun x hx => by simp at hx; simp [hx])).grow (fun x hx => .inl (by simp [hx]))

theorem disk_Sync1 {M : List Nat} {w : World} {root i : Nat} {v1 v0 : Value} {ss : List StreamM} {s : StreamM} (hv : RStrs M w v1 ss) (hs : ss[i]? = some s) (hM : ∀ k, k ∈ M → k < w.heap.size) (hsm : ss.length ≤ 64) (hot : ∃ a l c, v0 = .slice a l c) :
    Calls Tryd.prog 63 #[.agg #[.int .u64 root, v0, v1], .int .i64 1, .int .i64 i] w fun e w' => ∃ v', e = .returned (.tuple #[.agg #[.int .u64 root, v0, v'], .int .i64 0]) ∧ Same [] w w' ∧ RStrs M w' v' (ss.modify i syncM) := by
  have hmf : ∀ (fn : Fn) (first cap : Array Value) (w : World), (Instr.makeFunc fn first cap).run Tryd.prog w = .ok (.func fn first cap) w := fun _ _ _ _ => rfl
  obtain ⟨oa, ol, oc, rfl⟩ := hot
  obtain ⟨ma, ml, mc, rfl⟩ : ∃ a l c, v1 = .slice a l c := by obtain ⟨_, _, h, _⟩ := hv; exact h.form
  skip
  have HV := hid hv; have HS := hid hs; have HM := hid hM; have HSM := hid hsm
  clear hv hs hM hsm
  go_enter Tryd.func63, Tryd.ntmps63
  go_wp2_with fail
  refine calls_gen fun W hW => ?_
  have hsame : Same [] w W := by rw [hW]; (repeat refine Same.alloc ?_ _); exact Same.refl _ _
  skip
  have b2 : W.heap[w.heap.size + 1]? = some (.cells #[.int .u64 0, .slice none 0 0, .slice none 0 0] 31 (0, 0)) := by rw [hW]; exact block_at (by simp)
  clear hW
  have hgr : ∀ x, x ∈ (w.heap.size + 1) :: M → x ∈ M ∨ w.heap.size ≤ x := fun x hx => by simp at hx; rcases hx with h | h <;> first | exact .inl h | (right; omega)
  have hlt : ∀ k, k ∈ (w.heap.size + 1) :: M → k < W.heap.size := fun k hk => by
    have q1 := lt_of_some b2
    simp at hk; rcases hk with h | h
    · omega
    · have := HM.out k h; have := hsame.size; omega
  refine (turn_any1 (M := (w.heap.size + 1) :: M) (F := syncM) (fun _ _ => by kernel_rfl) ((HV.out.grow hgr).same hsame (by simp)) HS.out hlt HSM.out sync_by ⟨_, _, _, rfl⟩).mono ?_
  rintro _ w1 ⟨v', rfl, hs1, hv'⟩
  obtain ⟨na, nl, nc, rfl⟩ : ∃ a l c, v' = .slice a l c := by obtain ⟨_, _, h, _⟩ := hv'; exact h.form
  have c2 := (hs1.block _ (lt_of_some b2) (by simp)).trans b2
  have g2 := fun o => frozen_of_block (o := o) c2
  obtain ⟨y0, y1, y2⟩ := cells3 c2
  have C2 := hid c2; have HV' := hid hv'; have HS1 := hid (hsame.then hs1); clear c2 hv' hs1 hsame b2 hlt hgr
  go_wp2_with fail
  refine post_gen fun W6 hW6 => ?_
  have t6 : Same [w.heap.size + 1] w1 W6 := by rw [hW6]; exact (((Same.refl _ _).set (.inl (by simp))).set (.inl (by simp))).set (.inl (by simp))
  have e2 : W6.heap[w.heap.size + 1]? = some (.cells #[.int .u64 root, .slice oa ol oc, .slice na nl nc] 31 (0, 0)) := by rw [hW6]; simp [set_at, C2.out]
  clear hW6 y0 y1 y2 g2
  obtain ⟨y0, y1, y2⟩ := cells3 e2
  refine bodyPost_ret (v := .tuple #[.agg #[.int .u64 root, .slice oa ol oc, .slice na nl nc], .int .i64 0]) (by simp [results, Tryd.results63, go_sem, y0, y1, y2]) rfl ?_
  refine ⟨_, rfl, HS1.out.trans t6 (fun x hx => .inr (by simp at hx; omega)), ?_⟩
  exact (HV'.out.same t6 (fun x hx => by simp at hx; simp [hx])).grow (fun x hx => .inl (by simp [hx]))
end Go.Proofs.YtdfeinfaljidgaaDoor
