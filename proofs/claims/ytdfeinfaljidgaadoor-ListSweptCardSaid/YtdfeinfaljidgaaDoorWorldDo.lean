/- access.Do: a world behind an access of a word, an append or a sync. -/
import Derived.Test.YtdfeinfaljidgaaDoorAccess
namespace Go.Proofs.YtdfeinfaljidgaaDoor
open Go Go.RowKit

theorem W64_pos : 0 < W64 := by decide
theorem wordsM_T (m : MemM) (a : Acc) : (wordsM m a).1.T = m.T := by unfold wordsM; split <;> rfl
theorem wordsM_C (m : MemM) (a : Acc) : (wordsM m a).1.C = m.C := by unfold wordsM; split <;> rfl
theorem wordsM_b (m : MemM) (a : Acc) : (wordsM m a).2.b = [] := by unfold wordsM; split <;> rfl
theorem wordsM_fail (m : MemM) (a : Acc) : (wordsM m a).2.fail = false := by unfold wordsM; split <;> rfl
theorem wordsM_lt {m : MemM} {a : Acc} (h : ∀ x, x ∈ m.word → x < W64) (_ha : a.a < W64) (_hb : a.b < W64) : (wordsM m a).2.n < W64 := by
  unfold wordsM
  split
  · have hold : m.word.getD a.cell.toNat 0 < W64 := by
      rw [List.getD_eq_getElem?_getD]
      cases hg : m.word[a.cell.toNat]? with
      | none => exact W64_pos
      | some x => exact h x (List.mem_of_getElem? hg)
    simp only [turnM]
    repeat' split
    all_goals first | exact hold | exact W64_pos | exact (show 1 < W64 by decide)
  · exact W64_pos

set_option maxHeartbeats 1000000 in
theorem Do_words {M : List Nat} {w : World} {v av : Value} {me : Nat} {x : WorldM} {a : Acc} (hk : a.kind ≤ 4) (hv : RWorld M w v x) (ha : RAcc [] w av a) (hM : ∀ k, k ∈ M → k < w.heap.size) (hsm : x.mem.word.length ≤ 1000000000) :
    Calls Tryd.prog 26 #[v, .int .i64 me, av, .bool false] w fun e w' => ∃ v', e = .returned (.tuple #[v', .agg #[.int .u64 ((wordsM x.mem a).2.n : Nat), .slice none 0 0, .bool false]]) ∧ Same [] w w' ∧ RWorld M w' v' { x with mem := (wordsM x.mem a).1 } ∧ (wordsM x.mem a).2.n < W64 := by
  obtain ⟨wv, v0, v1, rfl, hwm, hr0, hr1, hroot⟩ := hv
  obtain ⟨dv, uv, rfl, hdv, huv, haa, hab, _⟩ := ha
  obtain ⟨ma, ml, mc, rfl⟩ := hwm.form
  obtain ⟨ra, rl, rc, rfl⟩ : ∃ a l c, v0 = .slice a l c := by obtain ⟨_, _, h, _⟩ := hr0; exact h.form
  obtain ⟨sa, sl, sc, rfl⟩ : ∃ a l c, v1 = .slice a l c := by obtain ⟨_, _, h, _⟩ := hr1; exact h.form
  obtain ⟨da, dl, dc, rfl⟩ := hdv.form
  obtain ⟨ua, ul, uc, rfl⟩ := huv.form
  have HWM := hid hwm; have HR0 := hid hr0; have HR1 := hid hr1; have HRT := hid hroot; have HDV := hid hdv; have HUV := hid huv; have HA := hid haa; have HB := hid hab; have HM := hid hM; have HSM := hid hsm; have HK := hid hk
  have g13 : (((a.kind : Nat) : Int) == 13) = false := by rw [beq_eq_false_iff_ne]; omega
  clear hwm hr0 hr1 hroot hdv huv haa hab hM hsm hk
  go_enter Tryd.func26, Tryd.ntmps26
  go_wp2_with fail
  refine (Disk_any (k := a.kind) (b := false) (by have := HK.out; rw [Bool.and_eq_false_iff]; left; rw [decide_eq_false_iff_not]; omega)).mono ?_
  rintro _ _ ⟨rfl, rfl⟩
  go_wp2_with fail
  refine (Disk_any (k := a.kind) (b := false) (by have := HK.out; rw [Bool.and_eq_false_iff]; left; rw [decide_eq_false_iff_not]; omega)).mono ?_
  rintro _ _ ⟨rfl, rfl⟩
  go_wp2_with fail
  refine calls_gen fun W hW => ?_
  have hsame : Same [] w W := by rw [hW]; (repeat refine Same.alloc ?_ _); exact Same.refl _ _
  have b0 : W.heap[w.heap.size]? = some (.cells #[.int .i64 x.mem.T, .int .i64 x.mem.C, .slice ma ml mc, .int .u64 x.disk.root, .slice ra rl rc, .slice sa sl sc] 33 (0, 0)) := by rw [hW]; exact block_old (block_old (block_old (block_old (block_new _ _))))
  have b2 : W.heap[w.heap.size + 1 + 1]? = some (.cells #[.int .i64 0, .int .i64 0, .slice none 0 0, .int .u64 0, .slice none 0 0, .slice none 0 0] 33 (0, 0)) := by rw [hW]; exact block_old (block_old (block_at (by simp)))
  have b3 : W.heap[w.heap.size + 1 + 1 + 1]? = some (.cells #[.int .u64 0, .slice none 0 0, .bool false] 77 (0, 0)) := by rw [hW]; exact block_old (block_at (by simp))
  have b4 : W.heap[w.heap.size + 1 + 1 + 1 + 1]? = some (.cells #[.int .u64 0, .slice none 0 0, .bool false] 77 (0, 0)) := by rw [hW]; exact block_at (by simp)
  clear hW
  obtain ⟨MM, hMM⟩ : ∃ MM, MM = w.heap.size :: (w.heap.size + 1 + 1) :: (w.heap.size + 1 + 1 + 1) :: (w.heap.size + 1 + 1 + 1 + 1) :: M := ⟨_, rfl⟩
  have hmem : ∀ z, z ∈ MM ↔ z = w.heap.size ∨ z = w.heap.size + 1 + 1 ∨ z = w.heap.size + 1 + 1 + 1 ∨ z = w.heap.size + 1 + 1 + 1 + 1 ∨ z ∈ M := fun z => by rw [hMM]; simp
  clear hMM
  have hgr : ∀ z, z ∈ MM → z ∈ M ∨ w.heap.size ≤ z := fun z hz => by rcases (hmem z).1 hz with h | h | h | h | h <;> first | exact .inl h | (right; omega)
  have hlt : ∀ k, k ∈ MM → k < W.heap.size := fun k hk => by
    have q1 := lt_of_some b4
    rcases (hmem k).1 hk with h | h | h | h | h <;> first | omega | (have := HM.out k h; have := hsame.size; omega)
  have hmm := (HWM.out.grow hgr).same hsame (by simp)
  refine (words_any (M := mostL W (.slice ma ml mc)) (m := x.mem) (a := a) HK.out hmm.most (fun k hk => (mem_mostL.1 hk).1) HSM.out HA.out HB.out).mono ?_
  rintro _ w1 ⟨v', rfl, hs1, hv'm⟩
  have hv' := hv'm.grow (M' := MM) fun z hz => .inl (mem_mostL.2 ⟨hlt z hz, fun hz2 => (hmm.own z hz2).1 hz⟩)
  have hown : ∀ k, k ∈ ownL v' ++ M → k ∈ ownL (.slice ma ml mc) ++ M ∨ w.heap.size ≤ k := fun k hk => by
    rcases List.mem_append.1 hk with hk | hk
    · have h1 := (hv'm.own k hk).1
      by_cases h2 : k ∈ ownL (.slice ma ml mc)
      · exact .inl (List.mem_append_left _ h2)
      · refine .inr ?_
        have h3 : ¬ k < W.heap.size := fun h3 => h1 (mem_mostL.2 ⟨h3, h2⟩)
        have := hsame.size
        omega
    · exact .inl (List.mem_append_right _ hk)
  have HOWN := hid hown
  clear hv'm hown hmm
  obtain ⟨na, nl, nc, rfl⟩ : ∃ a l c, v' = .slice a l c := hv'.form
  have c0 := (hs1.block _ (lt_of_some b0) (by simp)).trans b0
  have c2 := (hs1.block _ (lt_of_some b2) (by simp)).trans b2
  have c3 := (hs1.block _ (lt_of_some b3) (by simp)).trans b3
  have c4 := (hs1.block _ (lt_of_some b4) (by simp)).trans b4
  have g0 := fun o => frozen_of_block (o := o) c0
  have g4 := fun o => frozen_of_block (o := o) c4
  obtain ⟨x0, x1, x2, x3, x4, x5⟩ := cells6 c0
  obtain ⟨u0, u1, u2⟩ := cells3 c4
  have C0 := hid c0; have C2 := hid c2; have C3 := hid c3; have C4 := hid c4; have S1 := hid (hsame.then hs1); have HV' := hid hv'; have HMEM := hid hmem
  clear b0 b2 b3 b4 c0 c2 c3 c4 hs1 hsame hv' hgr hlt hmem
  go_wp2_with fail
  refine wp_gen fun W4 hW4 => ?_
  have k04 : ¬ w.heap.size = w.heap.size + 1 + 1 + 1 + 1 := by omega
  have k40 : ¬ w.heap.size + 1 + 1 + 1 + 1 = w.heap.size := by omega
  have s4 : Same [w.heap.size, w.heap.size + 1 + 1 + 1 + 1] w1 W4 := by rw [hW4]; (repeat refine Same.set ?_ (.inl (by simp))); exact Same.refl _ _
  have e0 : W4.heap[w.heap.size]? = some (.cells #[.int .i64 x.mem.T, .int .i64 x.mem.C, .slice na nl nc, .int .u64 x.disk.root, .slice ra rl rc, .slice sa sl sc] 33 (0, 0)) := by rw [hW4]; simp only [block_set_other k04]; simp [set_at, C0.out]
  have e4 : W4.heap[w.heap.size + 1 + 1 + 1 + 1]? = some (.cells #[.int .u64 ((wordsM x.mem a).2.n : Nat), .slice none 0 0, .bool false] 77 (0, 0)) := by rw [hW4]; simp [set_at, block_set_other k40, C4.out]
  have e2 := (s4.block _ (lt_of_some C2.out) (by simp; omega)).trans C2.out
  have e3 := (s4.block _ (lt_of_some C3.out) (by simp; omega)).trans C3.out
  clear hW4 x0 x1 x2 x3 x4 x5 u0 u1 u2 g0 g4
  have g2 := fun o => frozen_of_block (o := o) e2
  have g3 := fun o => frozen_of_block (o := o) e3
  obtain ⟨x0, x1, x2, x3, x4, x5⟩ := cells6 e0
  obtain ⟨y0, y1, y2, y3, y4, y5⟩ := cells6 e2
  obtain ⟨z0, z1, z2⟩ := cells3 e3
  obtain ⟨u0, u1, u2⟩ := cells3 e4
  have E2 := hid e2; have E3 := hid e3; have S4 := hid s4
  clear e0 e2 e3 e4 s4 k04 k40
  go_region
  all_goals go_wp2_with fail
  all_goals refine post_gen fun W6 hW6 => ?_
  all_goals have k23 : ¬ w.heap.size + 1 + 1 = w.heap.size + 1 + 1 + 1 := by omega
  all_goals have k32 : ¬ w.heap.size + 1 + 1 + 1 = w.heap.size + 1 + 1 := by omega
  all_goals have t6 : Same [w.heap.size + 1 + 1, w.heap.size + 1 + 1 + 1] W4 W6 := by rw [hW6]; refine Same.drew ?_; (repeat refine Same.set ?_ (.inl (by simp))); exact Same.refl _ _
  all_goals have h2 : W6.heap[w.heap.size + 1 + 1]? = some (.cells #[.int .i64 x.mem.T, .int .i64 x.mem.C, .slice na nl nc, .int .u64 x.disk.root, .slice ra rl rc, .slice sa sl sc] 33 (0, 0)) := by rw [hW6, show ∀ x : World, x.drew.heap = x.heap from fun _ => rfl]; simp only [block_set_other k23]; simp [set_at, E2.out]
  all_goals have h3 : W6.heap[w.heap.size + 1 + 1 + 1]? = some (.cells #[.int .u64 ((wordsM x.mem a).2.n : Nat), .slice none 0 0, .bool false] 77 (0, 0)) := by rw [hW6, show ∀ x : World, x.drew.heap = x.heap from fun _ => rfl]; simp [set_at, block_set_other k32, E3.out]
  all_goals clear hW6 x0 x1 x2 x3 x4 x5 y0 y1 y2 y3 y4 y5 z0 z1 z2 u0 u1 u2 g2 g3
  all_goals obtain ⟨y0, y1, y2, y3, y4, y5⟩ := cells6 h2
  all_goals obtain ⟨z0, z1, z2⟩ := cells3 h3
  all_goals refine bodyPost_ret (v := .tuple #[.agg #[.int .i64 x.mem.T, .int .i64 x.mem.C, .slice na nl nc, .int .u64 x.disk.root, .slice ra rl rc, .slice sa sl sc], .agg #[.int .u64 ((wordsM x.mem a).2.n : Nat), .slice none 0 0, .bool false]]) (by simp [results, Tryd.results26, go_sem, y0, y1, y2, y3, y4, y5, z0, z1, z2]) rfl ?_
  all_goals have t36 : Same [w.heap.size, w.heap.size + 1 + 1, w.heap.size + 1 + 1 + 1, w.heap.size + 1 + 1 + 1 + 1] w1 W6 := (S4.out.mono (fun x hx => .inl (by simp at hx; rcases hx with h | h <;> simp [h]))).trans t6 (fun x hx => .inl (by simp at hx; rcases hx with h | h <;> simp [h]))
  all_goals have hall : Same [] w W6 := S1.out.trans t36 (fun x hx => .inr (by simp at hx; omega))
  all_goals have hin : ∀ z, z ∈ [w.heap.size, w.heap.size + 1 + 1, w.heap.size + 1 + 1 + 1, w.heap.size + 1 + 1 + 1 + 1] → z ∈ MM := fun z hz => (HMEM.out z).2 (by simp at hz; rcases hz with h | h | h | h <;> simp [h])
  all_goals have hback : ∀ z, z ∈ M → z ∈ MM ∨ W6.heap.size ≤ z := fun z hz => .inl ((HMEM.out z).2 (by simp [hz]))
  all_goals refine ⟨_, rfl, hall, ⟨_, _, _, by simp only [wordsM_T, wordsM_C], (HV'.out.same t36 hin).grow hback, (HR0.out.grow HOWN.out).same hall (by simp), (HR1.out.grow HOWN.out).same hall (by simp), HRT.out⟩, ?_⟩
  all_goals exact wordsM_lt HWM.out.2 HA.out HB.out

set_option maxHeartbeats 1000000 in
theorem Do_5_0 {M : List Nat} {w : World} {v av : Value} {me : Nat} {x : WorldM} {a : Acc} {s : StreamM} (hk : a.kind = 5) (hr : x.disk.root % 2 = 0) (hv : RWorld M w v x) (ha : RAcc [] w av a) (hM : ∀ k, k ∈ M → k < w.heap.size) (hs : x.disk.row0[me]? = some s) (hsm : x.disk.row0.length ≤ 64) (hfit : s.data.length + a.data.length ≤ 1000000000) :
    Calls Tryd.prog 26 #[v, .int .i64 me, av, .bool false] w fun e w' => ∃ v', e = .returned (.tuple #[v', .agg #[.int .u64 0, .slice none 0 0, .bool false]]) ∧ Same [] w w' ∧ RWorld M w' v' { x with disk := { x.disk with row0 := x.disk.row0.modify me (fun s => appendM s a.data) } } := by
  obtain ⟨wv, v0, v1, rfl, hwm, hr0, hr1, hroot⟩ := hv
  obtain ⟨dv, uv, rfl, hdv, huv, haa, hab, _⟩ := ha
  obtain ⟨ma, ml, mc, rfl⟩ := hwm.form
  obtain ⟨ra, rl, rc, rfl⟩ : ∃ a l c, v0 = .slice a l c := by obtain ⟨_, _, h, _⟩ := hr0; exact h.form
  obtain ⟨sa, sl, sc, rfl⟩ : ∃ a l c, v1 = .slice a l c := by obtain ⟨_, _, h, _⟩ := hr1; exact h.form
  obtain ⟨da, dl, dc, rfl⟩ := hdv.form
  obtain ⟨ua, ul, uc, rfl⟩ := huv.form
  have HWM := hid hwm; have HRT := hid hroot; have HDV := hid hdv; have HUV := hid huv; have HA := hid haa; have HB := hid hab; have HM := hid hM; have HSM := hid hsm; have HK := hid hk; have HS := hid hs; have HR := hid hr; have HF := hid hfit
  rw [hk]
  clear hwm hroot hdv huv haa hab hM hsm hk hs hr hfit
  obtain ⟨M1, hM1⟩ : ∃ M1, M1 = ownL (.slice ma ml mc) ++ M := ⟨_, rfl⟩
  rw [← hM1] at hr0 hr1
  have HR0 := hid hr0; have HR1 := hid hr1
  have hlt1 : ∀ k, k ∈ M1 → k < w.heap.size := fun k hk => by
    rw [hM1] at hk
    rcases List.mem_append.1 hk with hk | hk
    · exact (HWM.out.own k hk).2
    · exact HM.out k hk
  have HM1 := hid hM1
  have HM := hid hlt1
  clear hM1 hlt1 hr0 hr1
  go_enter Tryd.func26, Tryd.ntmps26
  go_wp2_with fail
  refine (Disk_any (k := 5) (b := true) (by decide)).mono ?_
  rintro _ _ ⟨rfl, rfl⟩
  go_wp2_with fail
  refine (Disk_any (k := 5) (b := true) (by decide)).mono ?_
  rintro _ _ ⟨rfl, rfl⟩
  go_wp2_with fail
  refine calls_gen fun W hW => ?_
  have hsame : Same [] w W := by rw [hW]; (repeat refine Same.alloc ?_ _); exact Same.refl _ _
  have b0 : W.heap[w.heap.size]? = some (.cells #[.int .i64 x.mem.T, .int .i64 x.mem.C, .slice ma ml mc, .int .u64 x.disk.root, .slice ra rl rc, .slice sa sl sc] 33 (0, 0)) := by rw [hW]; exact block_old (block_old (block_old (block_old (block_new _ _))))
  have b2 : W.heap[w.heap.size + 1 + 1]? = some (.cells #[.int .i64 0, .int .i64 0, .slice none 0 0, .int .u64 0, .slice none 0 0, .slice none 0 0] 33 (0, 0)) := by rw [hW]; exact block_old (block_old (block_at (by simp)))
  have b3 : W.heap[w.heap.size + 1 + 1 + 1]? = some (.cells #[.int .u64 0, .slice none 0 0, .bool false] 77 (0, 0)) := by rw [hW]; exact block_old (block_at (by simp))
  have b4 : W.heap[w.heap.size + 1 + 1 + 1 + 1]? = some (.cells #[.int .u64 0, .slice none 0 0, .bool false] 77 (0, 0)) := by rw [hW]; exact block_at (by simp)
  clear hW
  obtain ⟨MM, hMM⟩ : ∃ MM, MM = w.heap.size :: (w.heap.size + 1 + 1) :: (w.heap.size + 1 + 1 + 1) :: (w.heap.size + 1 + 1 + 1 + 1) :: M1 := ⟨_, rfl⟩
  have hmem : ∀ z, z ∈ MM ↔ z = w.heap.size ∨ z = w.heap.size + 1 + 1 ∨ z = w.heap.size + 1 + 1 + 1 ∨ z = w.heap.size + 1 + 1 + 1 + 1 ∨ z ∈ M1 := fun z => by rw [hMM]; simp
  clear hMM
  have hgr : ∀ z, z ∈ MM → z ∈ M1 ∨ w.heap.size ≤ z := fun z hz => by rcases (hmem z).1 hz with h | h | h | h | h <;> first | exact .inl h | (right; omega)
  have hlt : ∀ k, k ∈ MM → k < W.heap.size := fun k hk => by
    have q1 := lt_of_some b4
    rcases (hmem k).1 hk with h | h | h | h | h <;> first | omega | (have := HM.out k h; have := hsame.size; omega)
  refine (streams5_0 (M := MM) (xs := a.data) (HDV.out.same hsame (by simp)) HF.out HR.out ((HR0.out.grow hgr).same hsame (by simp)) HS.out hlt HSM.out ⟨_, _, _, rfl⟩ ⟨_, _, _, rfl⟩).mono ?_
  rintro _ w1 ⟨v', rfl, hs1, hv'⟩
  obtain ⟨na, nl, nc, rfl⟩ : ∃ a l c, v' = .slice a l c := by obtain ⟨_, _, h, _⟩ := hv'; exact h.form
  have c0 := (hs1.block _ (lt_of_some b0) (by simp)).trans b0
  have c2 := (hs1.block _ (lt_of_some b2) (by simp)).trans b2
  have c3 := (hs1.block _ (lt_of_some b3) (by simp)).trans b3
  have c4 := (hs1.block _ (lt_of_some b4) (by simp)).trans b4
  have g0 := fun o => frozen_of_block (o := o) c0
  have g4 := fun o => frozen_of_block (o := o) c4
  obtain ⟨x0, x1, x2, x3, x4, x5⟩ := cells6 c0
  obtain ⟨u0, u1, u2⟩ := cells3 c4
  have C0 := hid c0; have C2 := hid c2; have C3 := hid c3; have C4 := hid c4; have S1 := hid (hsame.then hs1); have HV' := hid hv'; have HMEM := hid hmem
  clear b0 b2 b3 b4 c0 c2 c3 c4 hs1 hsame hv' hgr hlt hmem
  go_wp2_with fail
  refine wp_gen fun W4 hW4 => ?_
  have k04 : ¬ w.heap.size = w.heap.size + 1 + 1 + 1 + 1 := by omega
  have k40 : ¬ w.heap.size + 1 + 1 + 1 + 1 = w.heap.size := by omega
  have s4 : Same [w.heap.size, w.heap.size + 1 + 1 + 1 + 1] w1 W4 := by rw [hW4]; (repeat refine Same.set ?_ (.inl (by simp))); exact Same.refl _ _
  have e0 : W4.heap[w.heap.size]? = some (.cells #[.int .i64 x.mem.T, .int .i64 x.mem.C, .slice ma ml mc, .int .u64 x.disk.root, .slice na nl nc, .slice sa sl sc] 33 (0, 0)) := by rw [hW4]; simp only [block_set_other k04]; simp [set_at, C0.out]
  have e4 : W4.heap[w.heap.size + 1 + 1 + 1 + 1]? = some (.cells #[.int .u64 0, .slice none 0 0, .bool false] 77 (0, 0)) := by rw [hW4]; simp [set_at, block_set_other k40, C4.out]
  have e2 := (s4.block _ (lt_of_some C2.out) (by simp; omega)).trans C2.out
  have e3 := (s4.block _ (lt_of_some C3.out) (by simp; omega)).trans C3.out
  clear hW4 x0 x1 x2 x3 x4 x5 u0 u1 u2 g0 g4
  have g2 := fun o => frozen_of_block (o := o) e2
  have g3 := fun o => frozen_of_block (o := o) e3
  obtain ⟨x0, x1, x2, x3, x4, x5⟩ := cells6 e0
  obtain ⟨y0, y1, y2, y3, y4, y5⟩ := cells6 e2
  obtain ⟨z0, z1, z2⟩ := cells3 e3
  obtain ⟨u0, u1, u2⟩ := cells3 e4
  have E2 := hid e2; have E3 := hid e3; have S4 := hid s4
  clear e0 e2 e3 e4 s4 k04 k40
  go_region
  all_goals go_wp2_with fail
  all_goals refine post_gen fun W6 hW6 => ?_
  all_goals have k23 : ¬ w.heap.size + 1 + 1 = w.heap.size + 1 + 1 + 1 := by omega
  all_goals have k32 : ¬ w.heap.size + 1 + 1 + 1 = w.heap.size + 1 + 1 := by omega
  all_goals have t6 : Same [w.heap.size + 1 + 1, w.heap.size + 1 + 1 + 1] W4 W6 := by rw [hW6]; refine Same.drew ?_; (repeat refine Same.set ?_ (.inl (by simp))); exact Same.refl _ _
  all_goals have h2 : W6.heap[w.heap.size + 1 + 1]? = some (.cells #[.int .i64 x.mem.T, .int .i64 x.mem.C, .slice ma ml mc, .int .u64 x.disk.root, .slice na nl nc, .slice sa sl sc] 33 (0, 0)) := by rw [hW6, show ∀ x : World, x.drew.heap = x.heap from fun _ => rfl]; simp only [block_set_other k23]; simp [set_at, E2.out]
  all_goals have h3 : W6.heap[w.heap.size + 1 + 1 + 1]? = some (.cells #[.int .u64 0, .slice none 0 0, .bool false] 77 (0, 0)) := by rw [hW6, show ∀ x : World, x.drew.heap = x.heap from fun _ => rfl]; simp [set_at, block_set_other k32, E3.out]
  all_goals clear hW6 x0 x1 x2 x3 x4 x5 y0 y1 y2 y3 y4 y5 z0 z1 z2 u0 u1 u2 g2 g3
  all_goals obtain ⟨y0, y1, y2, y3, y4, y5⟩ := cells6 h2
  all_goals obtain ⟨z0, z1, z2⟩ := cells3 h3
  all_goals refine bodyPost_ret (v := .tuple #[.agg #[.int .i64 x.mem.T, .int .i64 x.mem.C, .slice ma ml mc, .int .u64 x.disk.root, .slice na nl nc, .slice sa sl sc], .agg #[.int .u64 0, .slice none 0 0, .bool false]]) (by simp [results, Tryd.results26, go_sem, y0, y1, y2, y3, y4, y5, z0, z1, z2]) rfl ?_
  all_goals have t36 : Same [w.heap.size, w.heap.size + 1 + 1, w.heap.size + 1 + 1 + 1, w.heap.size + 1 + 1 + 1 + 1] w1 W6 := (S4.out.mono (fun x hx => .inl (by simp at hx; rcases hx with h | h <;> simp [h]))).trans t6 (fun x hx => .inl (by simp at hx; rcases hx with h | h <;> simp [h]))
  all_goals have hall : Same [] w W6 := S1.out.trans t36 (fun x hx => .inr (by simp at hx; omega))
  all_goals have hin : ∀ z, z ∈ [w.heap.size, w.heap.size + 1 + 1, w.heap.size + 1 + 1 + 1, w.heap.size + 1 + 1 + 1 + 1] → z ∈ MM := fun z hz => (HMEM.out z).2 (by simp at hz; rcases hz with h | h | h | h <;> simp [h])
  all_goals have hback : ∀ z, z ∈ M1 → z ∈ MM ∨ W6.heap.size ≤ z := fun z hz => .inl ((HMEM.out z).2 (by simp [hz]))
  all_goals exact ⟨_, rfl, hall, ⟨_, _, _, rfl, HWM.out.same hall (by simp), HM1.out ▸ (HV'.out.same t36 hin).grow hback, HM1.out ▸ HR1.out.same hall (by simp), HRT.out⟩⟩

set_option maxHeartbeats 1000000 in
theorem Do_5_1 {M : List Nat} {w : World} {v av : Value} {me : Nat} {x : WorldM} {a : Acc} {s : StreamM} (hk : a.kind = 5) (hr : x.disk.root % 2 = 1) (hv : RWorld M w v x) (ha : RAcc [] w av a) (hM : ∀ k, k ∈ M → k < w.heap.size) (hs : x.disk.row1[me]? = some s) (hsm : x.disk.row1.length ≤ 64) (hfit : s.data.length + a.data.length ≤ 1000000000) :
    Calls Tryd.prog 26 #[v, .int .i64 me, av, .bool false] w fun e w' => ∃ v', e = .returned (.tuple #[v', .agg #[.int .u64 0, .slice none 0 0, .bool false]]) ∧ Same [] w w' ∧ RWorld M w' v' { x with disk := { x.disk with row1 := x.disk.row1.modify me (fun s => appendM s a.data) } } := by
  obtain ⟨wv, v0, v1, rfl, hwm, hr0, hr1, hroot⟩ := hv
  obtain ⟨dv, uv, rfl, hdv, huv, haa, hab, _⟩ := ha
  obtain ⟨ma, ml, mc, rfl⟩ := hwm.form
  obtain ⟨ra, rl, rc, rfl⟩ : ∃ a l c, v0 = .slice a l c := by obtain ⟨_, _, h, _⟩ := hr0; exact h.form
  obtain ⟨sa, sl, sc, rfl⟩ : ∃ a l c, v1 = .slice a l c := by obtain ⟨_, _, h, _⟩ := hr1; exact h.form
  obtain ⟨da, dl, dc, rfl⟩ := hdv.form
  obtain ⟨ua, ul, uc, rfl⟩ := huv.form
  have HWM := hid hwm; have HRT := hid hroot; have HDV := hid hdv; have HUV := hid huv; have HA := hid haa; have HB := hid hab; have HM := hid hM; have HSM := hid hsm; have HK := hid hk; have HS := hid hs; have HR := hid hr; have HF := hid hfit
  rw [hk]
  clear hwm hroot hdv huv haa hab hM hsm hk hs hr hfit
  obtain ⟨M1, hM1⟩ : ∃ M1, M1 = ownL (.slice ma ml mc) ++ M := ⟨_, rfl⟩
  rw [← hM1] at hr0 hr1
  have HR0 := hid hr0; have HR1 := hid hr1
  have hlt1 : ∀ k, k ∈ M1 → k < w.heap.size := fun k hk => by
    rw [hM1] at hk
    rcases List.mem_append.1 hk with hk | hk
    · exact (HWM.out.own k hk).2
    · exact HM.out k hk
  have HM1 := hid hM1
  have HM := hid hlt1
  clear hM1 hlt1 hr0 hr1
  go_enter Tryd.func26, Tryd.ntmps26
  go_wp2_with fail
  refine (Disk_any (k := 5) (b := true) (by decide)).mono ?_
  rintro _ _ ⟨rfl, rfl⟩
  go_wp2_with fail
  refine (Disk_any (k := 5) (b := true) (by decide)).mono ?_
  rintro _ _ ⟨rfl, rfl⟩
  go_wp2_with fail
  refine calls_gen fun W hW => ?_
  have hsame : Same [] w W := by rw [hW]; (repeat refine Same.alloc ?_ _); exact Same.refl _ _
  have b0 : W.heap[w.heap.size]? = some (.cells #[.int .i64 x.mem.T, .int .i64 x.mem.C, .slice ma ml mc, .int .u64 x.disk.root, .slice ra rl rc, .slice sa sl sc] 33 (0, 0)) := by rw [hW]; exact block_old (block_old (block_old (block_old (block_new _ _))))
  have b2 : W.heap[w.heap.size + 1 + 1]? = some (.cells #[.int .i64 0, .int .i64 0, .slice none 0 0, .int .u64 0, .slice none 0 0, .slice none 0 0] 33 (0, 0)) := by rw [hW]; exact block_old (block_old (block_at (by simp)))
  have b3 : W.heap[w.heap.size + 1 + 1 + 1]? = some (.cells #[.int .u64 0, .slice none 0 0, .bool false] 77 (0, 0)) := by rw [hW]; exact block_old (block_at (by simp))
  have b4 : W.heap[w.heap.size + 1 + 1 + 1 + 1]? = some (.cells #[.int .u64 0, .slice none 0 0, .bool false] 77 (0, 0)) := by rw [hW]; exact block_at (by simp)
  clear hW
  obtain ⟨MM, hMM⟩ : ∃ MM, MM = w.heap.size :: (w.heap.size + 1 + 1) :: (w.heap.size + 1 + 1 + 1) :: (w.heap.size + 1 + 1 + 1 + 1) :: M1 := ⟨_, rfl⟩
  have hmem : ∀ z, z ∈ MM ↔ z = w.heap.size ∨ z = w.heap.size + 1 + 1 ∨ z = w.heap.size + 1 + 1 + 1 ∨ z = w.heap.size + 1 + 1 + 1 + 1 ∨ z ∈ M1 := fun z => by rw [hMM]; simp
  clear hMM
  have hgr : ∀ z, z ∈ MM → z ∈ M1 ∨ w.heap.size ≤ z := fun z hz => by rcases (hmem z).1 hz with h | h | h | h | h <;> first | exact .inl h | (right; omega)
  have hlt : ∀ k, k ∈ MM → k < W.heap.size := fun k hk => by
    have q1 := lt_of_some b4
    rcases (hmem k).1 hk with h | h | h | h | h <;> first | omega | (have := HM.out k h; have := hsame.size; omega)
  refine (streams5_1 (M := MM) (xs := a.data) (HDV.out.same hsame (by simp)) HF.out HR.out ((HR1.out.grow hgr).same hsame (by simp)) HS.out hlt HSM.out ⟨_, _, _, rfl⟩ ⟨_, _, _, rfl⟩).mono ?_
  rintro _ w1 ⟨v', rfl, hs1, hv'⟩
  obtain ⟨na, nl, nc, rfl⟩ : ∃ a l c, v' = .slice a l c := by obtain ⟨_, _, h, _⟩ := hv'; exact h.form
  have c0 := (hs1.block _ (lt_of_some b0) (by simp)).trans b0
  have c2 := (hs1.block _ (lt_of_some b2) (by simp)).trans b2
  have c3 := (hs1.block _ (lt_of_some b3) (by simp)).trans b3
  have c4 := (hs1.block _ (lt_of_some b4) (by simp)).trans b4
  have g0 := fun o => frozen_of_block (o := o) c0
  have g4 := fun o => frozen_of_block (o := o) c4
  obtain ⟨x0, x1, x2, x3, x4, x5⟩ := cells6 c0
  obtain ⟨u0, u1, u2⟩ := cells3 c4
  have C0 := hid c0; have C2 := hid c2; have C3 := hid c3; have C4 := hid c4; have S1 := hid (hsame.then hs1); have HV' := hid hv'; have HMEM := hid hmem
  clear b0 b2 b3 b4 c0 c2 c3 c4 hs1 hsame hv' hgr hlt hmem
  go_wp2_with fail
  refine wp_gen fun W4 hW4 => ?_
  have k04 : ¬ w.heap.size = w.heap.size + 1 + 1 + 1 + 1 := by omega
  have k40 : ¬ w.heap.size + 1 + 1 + 1 + 1 = w.heap.size := by omega
  have s4 : Same [w.heap.size, w.heap.size + 1 + 1 + 1 + 1] w1 W4 := by rw [hW4]; (repeat refine Same.set ?_ (.inl (by simp))); exact Same.refl _ _
  have e0 : W4.heap[w.heap.size]? = some (.cells #[.int .i64 x.mem.T, .int .i64 x.mem.C, .slice ma ml mc, .int .u64 x.disk.root, .slice ra rl rc, .slice na nl nc] 33 (0, 0)) := by rw [hW4]; simp only [block_set_other k04]; simp [set_at, C0.out]
  have e4 : W4.heap[w.heap.size + 1 + 1 + 1 + 1]? = some (.cells #[.int .u64 0, .slice none 0 0, .bool false] 77 (0, 0)) := by rw [hW4]; simp [set_at, block_set_other k40, C4.out]
  have e2 := (s4.block _ (lt_of_some C2.out) (by simp; omega)).trans C2.out
  have e3 := (s4.block _ (lt_of_some C3.out) (by simp; omega)).trans C3.out
  clear hW4 x0 x1 x2 x3 x4 x5 u0 u1 u2 g0 g4
  have g2 := fun o => frozen_of_block (o := o) e2
  have g3 := fun o => frozen_of_block (o := o) e3
  obtain ⟨x0, x1, x2, x3, x4, x5⟩ := cells6 e0
  obtain ⟨y0, y1, y2, y3, y4, y5⟩ := cells6 e2
  obtain ⟨z0, z1, z2⟩ := cells3 e3
  obtain ⟨u0, u1, u2⟩ := cells3 e4
  have E2 := hid e2; have E3 := hid e3; have S4 := hid s4
  clear e0 e2 e3 e4 s4 k04 k40
  go_region
  all_goals go_wp2_with fail
  all_goals refine post_gen fun W6 hW6 => ?_
  all_goals have k23 : ¬ w.heap.size + 1 + 1 = w.heap.size + 1 + 1 + 1 := by omega
  all_goals have k32 : ¬ w.heap.size + 1 + 1 + 1 = w.heap.size + 1 + 1 := by omega
  all_goals have t6 : Same [w.heap.size + 1 + 1, w.heap.size + 1 + 1 + 1] W4 W6 := by rw [hW6]; refine Same.drew ?_; (repeat refine Same.set ?_ (.inl (by simp))); exact Same.refl _ _
  all_goals have h2 : W6.heap[w.heap.size + 1 + 1]? = some (.cells #[.int .i64 x.mem.T, .int .i64 x.mem.C, .slice ma ml mc, .int .u64 x.disk.root, .slice ra rl rc, .slice na nl nc] 33 (0, 0)) := by rw [hW6, show ∀ x : World, x.drew.heap = x.heap from fun _ => rfl]; simp only [block_set_other k23]; simp [set_at, E2.out]
  all_goals have h3 : W6.heap[w.heap.size + 1 + 1 + 1]? = some (.cells #[.int .u64 0, .slice none 0 0, .bool false] 77 (0, 0)) := by rw [hW6, show ∀ x : World, x.drew.heap = x.heap from fun _ => rfl]; simp [set_at, block_set_other k32, E3.out]
  all_goals clear hW6 x0 x1 x2 x3 x4 x5 y0 y1 y2 y3 y4 y5 z0 z1 z2 u0 u1 u2 g2 g3
  all_goals obtain ⟨y0, y1, y2, y3, y4, y5⟩ := cells6 h2
  all_goals obtain ⟨z0, z1, z2⟩ := cells3 h3
  all_goals refine bodyPost_ret (v := .tuple #[.agg #[.int .i64 x.mem.T, .int .i64 x.mem.C, .slice ma ml mc, .int .u64 x.disk.root, .slice ra rl rc, .slice na nl nc], .agg #[.int .u64 0, .slice none 0 0, .bool false]]) (by simp [results, Tryd.results26, go_sem, y0, y1, y2, y3, y4, y5, z0, z1, z2]) rfl ?_
  all_goals have t36 : Same [w.heap.size, w.heap.size + 1 + 1, w.heap.size + 1 + 1 + 1, w.heap.size + 1 + 1 + 1 + 1] w1 W6 := (S4.out.mono (fun x hx => .inl (by simp at hx; rcases hx with h | h <;> simp [h]))).trans t6 (fun x hx => .inl (by simp at hx; rcases hx with h | h <;> simp [h]))
  all_goals have hall : Same [] w W6 := S1.out.trans t36 (fun x hx => .inr (by simp at hx; omega))
  all_goals have hin : ∀ z, z ∈ [w.heap.size, w.heap.size + 1 + 1, w.heap.size + 1 + 1 + 1, w.heap.size + 1 + 1 + 1 + 1] → z ∈ MM := fun z hz => (HMEM.out z).2 (by simp at hz; rcases hz with h | h | h | h <;> simp [h])
  all_goals have hback : ∀ z, z ∈ M1 → z ∈ MM ∨ W6.heap.size ≤ z := fun z hz => .inl ((HMEM.out z).2 (by simp [hz]))
  all_goals exact ⟨_, rfl, hall, ⟨_, _, _, rfl, HWM.out.same hall (by simp), HM1.out ▸ HR0.out.same hall (by simp), HM1.out ▸ (HV'.out.same t36 hin).grow hback, HRT.out⟩⟩

set_option maxHeartbeats 1000000 in
theorem Do_6_0 {M : List Nat} {w : World} {v av : Value} {me : Nat} {x : WorldM} {a : Acc} {s : StreamM} (hk : a.kind = 6) (hr : x.disk.root % 2 = 0) (hv : RWorld M w v x) (ha : RAcc [] w av a) (hM : ∀ k, k ∈ M → k < w.heap.size) (hs : x.disk.row0[me]? = some s) (hsm : x.disk.row0.length ≤ 64) :
    Calls Tryd.prog 26 #[v, .int .i64 me, av, .bool false] w fun e w' => ∃ v', e = .returned (.tuple #[v', .agg #[.int .u64 0, .slice none 0 0, .bool false]]) ∧ Same [] w w' ∧ RWorld M w' v' { x with disk := { x.disk with row0 := x.disk.row0.modify me syncM } } := by
  obtain ⟨wv, v0, v1, rfl, hwm, hr0, hr1, hroot⟩ := hv
  obtain ⟨dv, uv, rfl, hdv, huv, haa, hab, _⟩ := ha
  obtain ⟨ma, ml, mc, rfl⟩ := hwm.form
  obtain ⟨ra, rl, rc, rfl⟩ : ∃ a l c, v0 = .slice a l c := by obtain ⟨_, _, h, _⟩ := hr0; exact h.form
  obtain ⟨sa, sl, sc, rfl⟩ : ∃ a l c, v1 = .slice a l c := by obtain ⟨_, _, h, _⟩ := hr1; exact h.form
  obtain ⟨da, dl, dc, rfl⟩ := hdv.form
  obtain ⟨ua, ul, uc, rfl⟩ := huv.form
  have HWM := hid hwm; have HRT := hid hroot; have HDV := hid hdv; have HUV := hid huv; have HA := hid haa; have HB := hid hab; have HM := hid hM; have HSM := hid hsm; have HK := hid hk; have HS := hid hs; have HR := hid hr
  rw [hk]
  clear hwm hroot hdv huv haa hab hM hsm hk hs hr
  obtain ⟨M1, hM1⟩ : ∃ M1, M1 = ownL (.slice ma ml mc) ++ M := ⟨_, rfl⟩
  rw [← hM1] at hr0 hr1
  have HR0 := hid hr0; have HR1 := hid hr1
  have hlt1 : ∀ k, k ∈ M1 → k < w.heap.size := fun k hk => by
    rw [hM1] at hk
    rcases List.mem_append.1 hk with hk | hk
    · exact (HWM.out.own k hk).2
    · exact HM.out k hk
  have HM1 := hid hM1
  have HM := hid hlt1
  clear hM1 hlt1 hr0 hr1
  go_enter Tryd.func26, Tryd.ntmps26
  go_wp2_with fail
  refine (Disk_any (k := 6) (b := true) (by decide)).mono ?_
  rintro _ _ ⟨rfl, rfl⟩
  go_wp2_with fail
  refine (Disk_any (k := 6) (b := true) (by decide)).mono ?_
  rintro _ _ ⟨rfl, rfl⟩
  go_wp2_with fail
  refine calls_gen fun W hW => ?_
  have hsame : Same [] w W := by rw [hW]; (repeat refine Same.alloc ?_ _); exact Same.refl _ _
  have b0 : W.heap[w.heap.size]? = some (.cells #[.int .i64 x.mem.T, .int .i64 x.mem.C, .slice ma ml mc, .int .u64 x.disk.root, .slice ra rl rc, .slice sa sl sc] 33 (0, 0)) := by rw [hW]; exact block_old (block_old (block_old (block_old (block_new _ _))))
  have b2 : W.heap[w.heap.size + 1 + 1]? = some (.cells #[.int .i64 0, .int .i64 0, .slice none 0 0, .int .u64 0, .slice none 0 0, .slice none 0 0] 33 (0, 0)) := by rw [hW]; exact block_old (block_old (block_at (by simp)))
  have b3 : W.heap[w.heap.size + 1 + 1 + 1]? = some (.cells #[.int .u64 0, .slice none 0 0, .bool false] 77 (0, 0)) := by rw [hW]; exact block_old (block_at (by simp))
  have b4 : W.heap[w.heap.size + 1 + 1 + 1 + 1]? = some (.cells #[.int .u64 0, .slice none 0 0, .bool false] 77 (0, 0)) := by rw [hW]; exact block_at (by simp)
  clear hW
  obtain ⟨MM, hMM⟩ : ∃ MM, MM = w.heap.size :: (w.heap.size + 1 + 1) :: (w.heap.size + 1 + 1 + 1) :: (w.heap.size + 1 + 1 + 1 + 1) :: M1 := ⟨_, rfl⟩
  have hmem : ∀ z, z ∈ MM ↔ z = w.heap.size ∨ z = w.heap.size + 1 + 1 ∨ z = w.heap.size + 1 + 1 + 1 ∨ z = w.heap.size + 1 + 1 + 1 + 1 ∨ z ∈ M1 := fun z => by rw [hMM]; simp
  clear hMM
  have hgr : ∀ z, z ∈ MM → z ∈ M1 ∨ w.heap.size ≤ z := fun z hz => by rcases (hmem z).1 hz with h | h | h | h | h <;> first | exact .inl h | (right; omega)
  have hlt : ∀ k, k ∈ MM → k < W.heap.size := fun k hk => by
    have q1 := lt_of_some b4
    rcases (hmem k).1 hk with h | h | h | h | h <;> first | omega | (have := HM.out k h; have := hsame.size; omega)
  refine (streams6_0 (M := MM) ⟨_, _, _, rfl⟩ HR.out ((HR0.out.grow hgr).same hsame (by simp)) HS.out hlt HSM.out ⟨_, _, _, rfl⟩ ⟨_, _, _, rfl⟩).mono ?_
  rintro _ w1 ⟨v', rfl, hs1, hv'⟩
  obtain ⟨na, nl, nc, rfl⟩ : ∃ a l c, v' = .slice a l c := by obtain ⟨_, _, h, _⟩ := hv'; exact h.form
  have c0 := (hs1.block _ (lt_of_some b0) (by simp)).trans b0
  have c2 := (hs1.block _ (lt_of_some b2) (by simp)).trans b2
  have c3 := (hs1.block _ (lt_of_some b3) (by simp)).trans b3
  have c4 := (hs1.block _ (lt_of_some b4) (by simp)).trans b4
  have g0 := fun o => frozen_of_block (o := o) c0
  have g4 := fun o => frozen_of_block (o := o) c4
  obtain ⟨x0, x1, x2, x3, x4, x5⟩ := cells6 c0
  obtain ⟨u0, u1, u2⟩ := cells3 c4
  have C0 := hid c0; have C2 := hid c2; have C3 := hid c3; have C4 := hid c4; have S1 := hid (hsame.then hs1); have HV' := hid hv'; have HMEM := hid hmem
  clear b0 b2 b3 b4 c0 c2 c3 c4 hs1 hsame hv' hgr hlt hmem
  go_wp2_with fail
  refine wp_gen fun W4 hW4 => ?_
  have k04 : ¬ w.heap.size = w.heap.size + 1 + 1 + 1 + 1 := by omega
  have k40 : ¬ w.heap.size + 1 + 1 + 1 + 1 = w.heap.size := by omega
  have s4 : Same [w.heap.size, w.heap.size + 1 + 1 + 1 + 1] w1 W4 := by rw [hW4]; (repeat refine Same.set ?_ (.inl (by simp))); exact Same.refl _ _
  have e0 : W4.heap[w.heap.size]? = some (.cells #[.int .i64 x.mem.T, .int .i64 x.mem.C, .slice ma ml mc, .int .u64 x.disk.root, .slice na nl nc, .slice sa sl sc] 33 (0, 0)) := by rw [hW4]; simp only [block_set_other k04]; simp [set_at, C0.out]
  have e4 : W4.heap[w.heap.size + 1 + 1 + 1 + 1]? = some (.cells #[.int .u64 0, .slice none 0 0, .bool false] 77 (0, 0)) := by rw [hW4]; simp [set_at, block_set_other k40, C4.out]
  have e2 := (s4.block _ (lt_of_some C2.out) (by simp; omega)).trans C2.out
  have e3 := (s4.block _ (lt_of_some C3.out) (by simp; omega)).trans C3.out
  clear hW4 x0 x1 x2 x3 x4 x5 u0 u1 u2 g0 g4
  have g2 := fun o => frozen_of_block (o := o) e2
  have g3 := fun o => frozen_of_block (o := o) e3
  obtain ⟨x0, x1, x2, x3, x4, x5⟩ := cells6 e0
  obtain ⟨y0, y1, y2, y3, y4, y5⟩ := cells6 e2
  obtain ⟨z0, z1, z2⟩ := cells3 e3
  obtain ⟨u0, u1, u2⟩ := cells3 e4
  have E2 := hid e2; have E3 := hid e3; have S4 := hid s4
  clear e0 e2 e3 e4 s4 k04 k40
  go_region
  all_goals go_wp2_with fail
  all_goals refine post_gen fun W6 hW6 => ?_
  all_goals have k23 : ¬ w.heap.size + 1 + 1 = w.heap.size + 1 + 1 + 1 := by omega
  all_goals have k32 : ¬ w.heap.size + 1 + 1 + 1 = w.heap.size + 1 + 1 := by omega
  all_goals have t6 : Same [w.heap.size + 1 + 1, w.heap.size + 1 + 1 + 1] W4 W6 := by rw [hW6]; refine Same.drew ?_; (repeat refine Same.set ?_ (.inl (by simp))); exact Same.refl _ _
  all_goals have h2 : W6.heap[w.heap.size + 1 + 1]? = some (.cells #[.int .i64 x.mem.T, .int .i64 x.mem.C, .slice ma ml mc, .int .u64 x.disk.root, .slice na nl nc, .slice sa sl sc] 33 (0, 0)) := by rw [hW6, show ∀ x : World, x.drew.heap = x.heap from fun _ => rfl]; simp only [block_set_other k23]; simp [set_at, E2.out]
  all_goals have h3 : W6.heap[w.heap.size + 1 + 1 + 1]? = some (.cells #[.int .u64 0, .slice none 0 0, .bool false] 77 (0, 0)) := by rw [hW6, show ∀ x : World, x.drew.heap = x.heap from fun _ => rfl]; simp [set_at, block_set_other k32, E3.out]
  all_goals clear hW6 x0 x1 x2 x3 x4 x5 y0 y1 y2 y3 y4 y5 z0 z1 z2 u0 u1 u2 g2 g3
  all_goals obtain ⟨y0, y1, y2, y3, y4, y5⟩ := cells6 h2
  all_goals obtain ⟨z0, z1, z2⟩ := cells3 h3
  all_goals refine bodyPost_ret (v := .tuple #[.agg #[.int .i64 x.mem.T, .int .i64 x.mem.C, .slice ma ml mc, .int .u64 x.disk.root, .slice na nl nc, .slice sa sl sc], .agg #[.int .u64 0, .slice none 0 0, .bool false]]) (by simp [results, Tryd.results26, go_sem, y0, y1, y2, y3, y4, y5, z0, z1, z2]) rfl ?_
  all_goals have t36 : Same [w.heap.size, w.heap.size + 1 + 1, w.heap.size + 1 + 1 + 1, w.heap.size + 1 + 1 + 1 + 1] w1 W6 := (S4.out.mono (fun x hx => .inl (by simp at hx; rcases hx with h | h <;> simp [h]))).trans t6 (fun x hx => .inl (by simp at hx; rcases hx with h | h <;> simp [h]))
  all_goals have hall : Same [] w W6 := S1.out.trans t36 (fun x hx => .inr (by simp at hx; omega))
  all_goals have hin : ∀ z, z ∈ [w.heap.size, w.heap.size + 1 + 1, w.heap.size + 1 + 1 + 1, w.heap.size + 1 + 1 + 1 + 1] → z ∈ MM := fun z hz => (HMEM.out z).2 (by simp at hz; rcases hz with h | h | h | h <;> simp [h])
  all_goals have hback : ∀ z, z ∈ M1 → z ∈ MM ∨ W6.heap.size ≤ z := fun z hz => .inl ((HMEM.out z).2 (by simp [hz]))
  all_goals exact ⟨_, rfl, hall, ⟨_, _, _, rfl, HWM.out.same hall (by simp), HM1.out ▸ (HV'.out.same t36 hin).grow hback, HM1.out ▸ HR1.out.same hall (by simp), HRT.out⟩⟩

set_option maxHeartbeats 1000000 in
theorem Do_6_1 {M : List Nat} {w : World} {v av : Value} {me : Nat} {x : WorldM} {a : Acc} {s : StreamM} (hk : a.kind = 6) (hr : x.disk.root % 2 = 1) (hv : RWorld M w v x) (ha : RAcc [] w av a) (hM : ∀ k, k ∈ M → k < w.heap.size) (hs : x.disk.row1[me]? = some s) (hsm : x.disk.row1.length ≤ 64) :
    Calls Tryd.prog 26 #[v, .int .i64 me, av, .bool false] w fun e w' => ∃ v', e = .returned (.tuple #[v', .agg #[.int .u64 0, .slice none 0 0, .bool false]]) ∧ Same [] w w' ∧ RWorld M w' v' { x with disk := { x.disk with row1 := x.disk.row1.modify me syncM } } := by
  obtain ⟨wv, v0, v1, rfl, hwm, hr0, hr1, hroot⟩ := hv
  obtain ⟨dv, uv, rfl, hdv, huv, haa, hab, _⟩ := ha
  obtain ⟨ma, ml, mc, rfl⟩ := hwm.form
  obtain ⟨ra, rl, rc, rfl⟩ : ∃ a l c, v0 = .slice a l c := by obtain ⟨_, _, h, _⟩ := hr0; exact h.form
  obtain ⟨sa, sl, sc, rfl⟩ : ∃ a l c, v1 = .slice a l c := by obtain ⟨_, _, h, _⟩ := hr1; exact h.form
  obtain ⟨da, dl, dc, rfl⟩ := hdv.form
  obtain ⟨ua, ul, uc, rfl⟩ := huv.form
  have HWM := hid hwm; have HRT := hid hroot; have HDV := hid hdv; have HUV := hid huv; have HA := hid haa; have HB := hid hab; have HM := hid hM; have HSM := hid hsm; have HK := hid hk; have HS := hid hs; have HR := hid hr
  rw [hk]
  clear hwm hroot hdv huv haa hab hM hsm hk hs hr
  obtain ⟨M1, hM1⟩ : ∃ M1, M1 = ownL (.slice ma ml mc) ++ M := ⟨_, rfl⟩
  rw [← hM1] at hr0 hr1
  have HR0 := hid hr0; have HR1 := hid hr1
  have hlt1 : ∀ k, k ∈ M1 → k < w.heap.size := fun k hk => by
    rw [hM1] at hk
    rcases List.mem_append.1 hk with hk | hk
    · exact (HWM.out.own k hk).2
    · exact HM.out k hk
  have HM1 := hid hM1
  have HM := hid hlt1
  clear hM1 hlt1 hr0 hr1
  go_enter Tryd.func26, Tryd.ntmps26
  go_wp2_with fail
  refine (Disk_any (k := 6) (b := true) (by decide)).mono ?_
  rintro _ _ ⟨rfl, rfl⟩
  go_wp2_with fail
  refine (Disk_any (k := 6) (b := true) (by decide)).mono ?_
  rintro _ _ ⟨rfl, rfl⟩
  go_wp2_with fail
  refine calls_gen fun W hW => ?_
  have hsame : Same [] w W := by rw [hW]; (repeat refine Same.alloc ?_ _); exact Same.refl _ _
  have b0 : W.heap[w.heap.size]? = some (.cells #[.int .i64 x.mem.T, .int .i64 x.mem.C, .slice ma ml mc, .int .u64 x.disk.root, .slice ra rl rc, .slice sa sl sc] 33 (0, 0)) := by rw [hW]; exact block_old (block_old (block_old (block_old (block_new _ _))))
  have b2 : W.heap[w.heap.size + 1 + 1]? = some (.cells #[.int .i64 0, .int .i64 0, .slice none 0 0, .int .u64 0, .slice none 0 0, .slice none 0 0] 33 (0, 0)) := by rw [hW]; exact block_old (block_old (block_at (by simp)))
  have b3 : W.heap[w.heap.size + 1 + 1 + 1]? = some (.cells #[.int .u64 0, .slice none 0 0, .bool false] 77 (0, 0)) := by rw [hW]; exact block_old (block_at (by simp))
  have b4 : W.heap[w.heap.size + 1 + 1 + 1 + 1]? = some (.cells #[.int .u64 0, .slice none 0 0, .bool false] 77 (0, 0)) := by rw [hW]; exact block_at (by simp)
  clear hW
  obtain ⟨MM, hMM⟩ : ∃ MM, MM = w.heap.size :: (w.heap.size + 1 + 1) :: (w.heap.size + 1 + 1 + 1) :: (w.heap.size + 1 + 1 + 1 + 1) :: M1 := ⟨_, rfl⟩
  have hmem : ∀ z, z ∈ MM ↔ z = w.heap.size ∨ z = w.heap.size + 1 + 1 ∨ z = w.heap.size + 1 + 1 + 1 ∨ z = w.heap.size + 1 + 1 + 1 + 1 ∨ z ∈ M1 := fun z => by rw [hMM]; simp
  clear hMM
  have hgr : ∀ z, z ∈ MM → z ∈ M1 ∨ w.heap.size ≤ z := fun z hz => by rcases (hmem z).1 hz with h | h | h | h | h <;> first | exact .inl h | (right; omega)
  have hlt : ∀ k, k ∈ MM → k < W.heap.size := fun k hk => by
    have q1 := lt_of_some b4
    rcases (hmem k).1 hk with h | h | h | h | h <;> first | omega | (have := HM.out k h; have := hsame.size; omega)
  refine (streams6_1 (M := MM) ⟨_, _, _, rfl⟩ HR.out ((HR1.out.grow hgr).same hsame (by simp)) HS.out hlt HSM.out ⟨_, _, _, rfl⟩ ⟨_, _, _, rfl⟩).mono ?_
  rintro _ w1 ⟨v', rfl, hs1, hv'⟩
  obtain ⟨na, nl, nc, rfl⟩ : ∃ a l c, v' = .slice a l c := by obtain ⟨_, _, h, _⟩ := hv'; exact h.form
  have c0 := (hs1.block _ (lt_of_some b0) (by simp)).trans b0
  have c2 := (hs1.block _ (lt_of_some b2) (by simp)).trans b2
  have c3 := (hs1.block _ (lt_of_some b3) (by simp)).trans b3
  have c4 := (hs1.block _ (lt_of_some b4) (by simp)).trans b4
  have g0 := fun o => frozen_of_block (o := o) c0
  have g4 := fun o => frozen_of_block (o := o) c4
  obtain ⟨x0, x1, x2, x3, x4, x5⟩ := cells6 c0
  obtain ⟨u0, u1, u2⟩ := cells3 c4
  have C0 := hid c0; have C2 := hid c2; have C3 := hid c3; have C4 := hid c4; have S1 := hid (hsame.then hs1); have HV' := hid hv'; have HMEM := hid hmem
  clear b0 b2 b3 b4 c0 c2 c3 c4 hs1 hsame hv' hgr hlt hmem
  go_wp2_with fail
  refine wp_gen fun W4 hW4 => ?_
  have k04 : ¬ w.heap.size = w.heap.size + 1 + 1 + 1 + 1 := by omega
  have k40 : ¬ w.heap.size + 1 + 1 + 1 + 1 = w.heap.size := by omega
  have s4 : Same [w.heap.size, w.heap.size + 1 + 1 + 1 + 1] w1 W4 := by rw [hW4]; (repeat refine Same.set ?_ (.inl (by simp))); exact Same.refl _ _
  have e0 : W4.heap[w.heap.size]? = some (.cells #[.int .i64 x.mem.T, .int .i64 x.mem.C, .slice ma ml mc, .int .u64 x.disk.root, .slice ra rl rc, .slice na nl nc] 33 (0, 0)) := by rw [hW4]; simp only [block_set_other k04]; simp [set_at, C0.out]
  have e4 : W4.heap[w.heap.size + 1 + 1 + 1 + 1]? = some (.cells #[.int .u64 0, .slice none 0 0, .bool false] 77 (0, 0)) := by rw [hW4]; simp [set_at, block_set_other k40, C4.out]
  have e2 := (s4.block _ (lt_of_some C2.out) (by simp; omega)).trans C2.out
  have e3 := (s4.block _ (lt_of_some C3.out) (by simp; omega)).trans C3.out
  clear hW4 x0 x1 x2 x3 x4 x5 u0 u1 u2 g0 g4
  have g2 := fun o => frozen_of_block (o := o) e2
  have g3 := fun o => frozen_of_block (o := o) e3
  obtain ⟨x0, x1, x2, x3, x4, x5⟩ := cells6 e0
  obtain ⟨y0, y1, y2, y3, y4, y5⟩ := cells6 e2
  obtain ⟨z0, z1, z2⟩ := cells3 e3
  obtain ⟨u0, u1, u2⟩ := cells3 e4
  have E2 := hid e2; have E3 := hid e3; have S4 := hid s4
  clear e0 e2 e3 e4 s4 k04 k40
  go_region
  all_goals go_wp2_with fail
  all_goals refine post_gen fun W6 hW6 => ?_
  all_goals have k23 : ¬ w.heap.size + 1 + 1 = w.heap.size + 1 + 1 + 1 := by omega
  all_goals have k32 : ¬ w.heap.size + 1 + 1 + 1 = w.heap.size + 1 + 1 := by omega
  all_goals have t6 : Same [w.heap.size + 1 + 1, w.heap.size + 1 + 1 + 1] W4 W6 := by rw [hW6]; refine Same.drew ?_; (repeat refine Same.set ?_ (.inl (by simp))); exact Same.refl _ _
  all_goals have h2 : W6.heap[w.heap.size + 1 + 1]? = some (.cells #[.int .i64 x.mem.T, .int .i64 x.mem.C, .slice ma ml mc, .int .u64 x.disk.root, .slice ra rl rc, .slice na nl nc] 33 (0, 0)) := by rw [hW6, show ∀ x : World, x.drew.heap = x.heap from fun _ => rfl]; simp only [block_set_other k23]; simp [set_at, E2.out]
  all_goals have h3 : W6.heap[w.heap.size + 1 + 1 + 1]? = some (.cells #[.int .u64 0, .slice none 0 0, .bool false] 77 (0, 0)) := by rw [hW6, show ∀ x : World, x.drew.heap = x.heap from fun _ => rfl]; simp [set_at, block_set_other k32, E3.out]
  all_goals clear hW6 x0 x1 x2 x3 x4 x5 y0 y1 y2 y3 y4 y5 z0 z1 z2 u0 u1 u2 g2 g3
  all_goals obtain ⟨y0, y1, y2, y3, y4, y5⟩ := cells6 h2
  all_goals obtain ⟨z0, z1, z2⟩ := cells3 h3
  all_goals refine bodyPost_ret (v := .tuple #[.agg #[.int .i64 x.mem.T, .int .i64 x.mem.C, .slice ma ml mc, .int .u64 x.disk.root, .slice ra rl rc, .slice na nl nc], .agg #[.int .u64 0, .slice none 0 0, .bool false]]) (by simp [results, Tryd.results26, go_sem, y0, y1, y2, y3, y4, y5, z0, z1, z2]) rfl ?_
  all_goals have t36 : Same [w.heap.size, w.heap.size + 1 + 1, w.heap.size + 1 + 1 + 1, w.heap.size + 1 + 1 + 1 + 1] w1 W6 := (S4.out.mono (fun x hx => .inl (by simp at hx; rcases hx with h | h <;> simp [h]))).trans t6 (fun x hx => .inl (by simp at hx; rcases hx with h | h <;> simp [h]))
  all_goals have hall : Same [] w W6 := S1.out.trans t36 (fun x hx => .inr (by simp at hx; omega))
  all_goals have hin : ∀ z, z ∈ [w.heap.size, w.heap.size + 1 + 1, w.heap.size + 1 + 1 + 1, w.heap.size + 1 + 1 + 1 + 1] → z ∈ MM := fun z hz => (HMEM.out z).2 (by simp at hz; rcases hz with h | h | h | h <;> simp [h])
  all_goals have hback : ∀ z, z ∈ M1 → z ∈ MM ∨ W6.heap.size ≤ z := fun z hz => .inl ((HMEM.out z).2 (by simp [hz]))
  all_goals exact ⟨_, rfl, hall, ⟨_, _, _, rfl, HWM.out.same hall (by simp), HM1.out ▸ HR0.out.same hall (by simp), HM1.out ▸ (HV'.out.same t36 hin).grow hback, HRT.out⟩⟩
end Go.Proofs.YtdfeinfaljidgaaDoor
