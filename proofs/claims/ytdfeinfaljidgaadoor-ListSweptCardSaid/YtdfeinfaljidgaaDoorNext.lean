/- The contract of list.Next: it replays its program. -/
import Derived.Test.YtdfeinfaljidgaaDoorRun
import Derived.Test.YtdfeinfaljidgaaDoorSearch
import Derived.Test.YtdfeinfaljidgaaDoorSweep
import Derived.Test.YtdfeinfaljidgaaDoorSeek
import Derived.Test.YtdfeinfaljidgaaDoorList
import Derived.WalkSpells
namespace Go.Proofs.YtdfeinfaljidgaaDoor
open Go Go.RowKit

/-- Behind writes to a block of its own. -/
theorem own_block (d : DoSem) {M : List Nat} {s s' : d.σ} {w w' W : World} {o : Obj} (hI : d.Inv M s w) (hs : Same d.D (w.alloc o) w') (hI' : d.Inv (w.heap.size :: M) s' w') (hW : Same [w.heap.size] w' W) : Same d.D w W ∧ d.Inv M s' W := by
  have hn := d.notin hI (Nat.le_refl w.heap.size)
  have hE : ∀ k, k ∈ [w.heap.size] → k ∈ w.heap.size :: M ∧ k ∉ d.D := fun k hk => by simp only [List.mem_singleton] at hk; subst hk; exact ⟨List.mem_cons_self .., hn⟩
  refine ⟨(((Same.refl d.D w).alloc o).trans hs fun x hx => .inl hx).trans hW (fun x hx => by simp only [List.mem_singleton] at hx; subst hx; exact .inr (Nat.le_refl _)), ?_⟩
  have h2 := d.grow hI' hW hE (fun _ h => h) (fun _ h => .inl h) (fun k hk => Nat.lt_of_lt_of_le (d.lt hI' k hk) hW.size)
  exact d.anti h2 (fun k hk => List.mem_cons_of_mem _ hk) (d.sub hI)

theorem list_body24 (d : DoSem) {M : List Nat} {s : d.σ} {w : World} {S : Acc → d.σ → Prop} {Q : Ending → World → Prop} {t n bo bt : Nat} {u v wt : Nat} {K : OutM → d.σ → Prop} (_HBy : BytesSpec) (hI : d.Inv M s w) (ht : t ≤ 64)
    (hu : u ≤ 1048575) (hv : v ≤ 1048575) (hw : wt < W64) (hw2 : (24 : Int) = 24 → wt ≤ 1048575) (hbo : w.heap[bo]? = some (.cells #[.int .i64 24, .int .i64 u, .int .i64 v, .int .u64 wt] 42 (0, 0))) (hbt : w.heap[bt]? = some (.cells #[.int .i64 t] 3 (0, 0)))
    (h : d.wp (listP n t { kind := 24, u := u, v := v, w := wt }) s K S)
    (hok : ∀ o s' w' ov, Same d.D w w' → d.Inv M s' w' → ROut M w' ov o → K o s' → Q (.returned ov) w') (hstop : d.Stops d.D M w S Q) :
    Calls Tryd.prog 47 #[d.val, .pointer (some ⟨bo, 0, none⟩), .pointer (some ⟨bt, 0, none⟩)] w Q := by
  have H := hid h; have Hok := hid hok; have HW := hid hw; have HW2 := hid hw2; clear h hok hw hw2
  obtain ⟨c0, c1, c2, c3⟩ := cells4 hbo
  have t0 : w.cell? ⟨bt, 0, none⟩ = some (.int .i64 t) := cell_of_block hbt rfl
  have l0 : bo < w.heap.size := lt_of_some hbo
  have l1 : bt < w.heap.size := lt_of_some hbt
  clear hbo hbt
  have hup : ∀ o, d.Stops d.D (w.heap.size :: M) (w.alloc o) S Q := fun o => hstop.up ((Same.refl _ w).alloc o) (fun _ h => .inl h) (fun _ h => List.mem_cons_of_mem _ h) (d.sub hI)
  have HUP := hid hup; have HI := hid hI; have HST := hid hstop
  clear hup hI hstop
  have H1 : Hid (d.wp (linkP t u v wt) s (fun x s' => K { is := x } s') S) := by
    have := H.out; simp only [listP, Int.toNat_natCast] at this; exact hid (d.wp_bind this)
  clear H
  have hw3 := HW2.out rfl
  go_enter Tryd.func47, Tryd.ntmps47
  go_wp2_with fail
  refine list_Link_any d (d.alloc _ HI.out) ht (by omega) (by omega) (by omega) H1.out ?_ (fun a s w' av hs hI ha hS => ⟨rfl, HUP.out _ _ _ _ _ hs hI ha hS⟩)
  intro x s' w' hs' hI' hK
  have hb := (hs'.block _ (by simp) (d.notin HI.out (Nat.le_refl _))).trans (block_new w _)
  have HS := hid hs'; have HI' := hid hI'; have HK := hid hK
  clear hs' hI' hK
  have f0 : ∀ o, w'.frozen? ⟨w.heap.size, o, none⟩ = false := fun o => frozen_of_block hb
  obtain ⟨o0, o1, o2, o3, o4⟩ := cells5 hb
  have Hb := hid hb
  clear hb
  go_wp2_with fail
  refine post_gen fun W hW => ?_
  have hb2 : W.heap[w.heap.size]? = some (.cells #[.int .i64 0, .bool x, .int .i64 0, .int .u64 0, .slice none 0 0] 38 (0, 0)) := by rw [hW]; simp [set_at, Hb.out]
  have hW2 : Same [w.heap.size] w' W := by rw [hW]; (repeat refine Same.set ?_ (.inl (List.mem_singleton.2 rfl))); exact Same.refl _ _
  obtain ⟨hS, hI2⟩ := own_block d HI.out HS.out HI'.out hW2
  clear hW o0 o1 o2 o3 o4
  obtain ⟨o0, o1, o2, o3, o4⟩ := cells5 hb2
  refine bodyPost_ret (v := .agg #[.int .i64 0, .bool x, .int .i64 0, .int .u64 0, .slice none 0 0]) (by simp [results, Tryd.results47, go_sem, o0, o1, o2, o3, o4]) rfl ?_
  exact Hok.out { is := x } s' _ _ hS hI2 ⟨_, rfl, Ints.nil _ _, W64_zero⟩ HK.out

theorem list_body25 (d : DoSem) {M : List Nat} {s : d.σ} {w : World} {S : Acc → d.σ → Prop} {Q : Ending → World → Prop} {t n bo bt : Nat} {u v wt : Nat} {K : OutM → d.σ → Prop} (_HBy : BytesSpec) (hI : d.Inv M s w) (ht : t ≤ 64)
    (hu : u ≤ 1048575) (_hv : v ≤ 1048575) (hw : wt < W64) (hw2 : (25 : Int) = 24 → wt ≤ 1048575) (hbo : w.heap[bo]? = some (.cells #[.int .i64 25, .int .i64 u, .int .i64 v, .int .u64 wt] 42 (0, 0))) (hbt : w.heap[bt]? = some (.cells #[.int .i64 t] 3 (0, 0)))
    (h : d.wp (listP n t { kind := 25, u := u, v := v, w := wt }) s K S)
    (hok : ∀ o s' w' ov, Same d.D w w' → d.Inv M s' w' → ROut M w' ov o → K o s' → Q (.returned ov) w') (hstop : d.Stops d.D M w S Q) :
    Calls Tryd.prog 47 #[d.val, .pointer (some ⟨bo, 0, none⟩), .pointer (some ⟨bt, 0, none⟩)] w Q := by
  have H := hid h; have Hok := hid hok; have HW := hid hw; have HW2 := hid hw2; clear h hok hw hw2
  obtain ⟨c0, c1, c2, c3⟩ := cells4 hbo
  have t0 : w.cell? ⟨bt, 0, none⟩ = some (.int .i64 t) := cell_of_block hbt rfl
  have l0 : bo < w.heap.size := lt_of_some hbo
  have l1 : bt < w.heap.size := lt_of_some hbt
  clear hbo hbt
  have hup : ∀ o, d.Stops d.D (w.heap.size :: M) (w.alloc o) S Q := fun o => hstop.up ((Same.refl _ w).alloc o) (fun _ h => .inl h) (fun _ h => List.mem_cons_of_mem _ h) (d.sub hI)
  have HUP := hid hup; have HI := hid hI; have HST := hid hstop
  clear hup hI hstop
  have H1 : Hid (d.wp (seekP n t u wt) s (fun x s' => K { n := x.1, is := x.2 } s') S) := by
    have := H.out; simp only [listP, Int.toNat_natCast] at this; exact hid (d.wp_bind this)
  clear H
  go_enter Tryd.func47, Tryd.ntmps47
  go_wp2_with fail
  refine list_Seek_any d (d.alloc _ HI.out) ht (by omega) HW.out H1.out ?_ (fun a s w' av hs hI ha hS => ⟨rfl, HUP.out _ _ _ _ _ hs hI ha hS⟩)
  intro x s' w' hs' hI' hx hK
  have hb := (hs'.block _ (by simp) (d.notin HI.out (Nat.le_refl _))).trans (block_new w _)
  have HS := hid hs'; have HI' := hid hI'; have HK := hid hK
  clear hs' hI' hK
  have f0 : ∀ o, w'.frozen? ⟨w.heap.size, o, none⟩ = false := fun o => frozen_of_block hb
  obtain ⟨o0, o1, o2, o3, o4⟩ := cells5 hb
  have Hb := hid hb
  clear hb
  go_wp2_with fail
  refine post_gen fun W hW => ?_
  have hb2 : W.heap[w.heap.size]? = some (.cells #[.int .i64 0, .bool x.2, .int .i64 (x.1 : Nat), .int .u64 0, .slice none 0 0] 38 (0, 0)) := by rw [hW]; simp [set_at, Hb.out]
  have hW2 : Same [w.heap.size] w' W := by rw [hW]; (repeat refine Same.set ?_ (.inl (List.mem_singleton.2 rfl))); exact Same.refl _ _
  obtain ⟨hS, hI2⟩ := own_block d HI.out HS.out HI'.out hW2
  clear hW o0 o1 o2 o3 o4
  obtain ⟨o0, o1, o2, o3, o4⟩ := cells5 hb2
  refine bodyPost_ret (v := .agg #[.int .i64 0, .bool x.2, .int .i64 (x.1 : Nat), .int .u64 0, .slice none 0 0]) (by simp [results, Tryd.results47, go_sem, o0, o1, o2, o3, o4]) rfl ?_
  exact Hok.out { n := x.1, is := x.2 } s' _ _ hS hI2 ⟨_, rfl, Ints.nil _ _, W64_zero⟩ HK.out

theorem list_body9 (d : DoSem) {M : List Nat} {s : d.σ} {w : World} {S : Acc → d.σ → Prop} {Q : Ending → World → Prop} {t n bo bt : Nat} {u v wt : Nat} {K : OutM → d.σ → Prop} (_HBy : BytesSpec) (hI : d.Inv M s w) (ht : t ≤ 64)
    (hu : u ≤ 1048575) (_hv : v ≤ 1048575) (hw : wt < W64) (hw2 : (9 : Int) = 24 → wt ≤ 1048575) (hbo : w.heap[bo]? = some (.cells #[.int .i64 9, .int .i64 u, .int .i64 v, .int .u64 wt] 42 (0, 0))) (hbt : w.heap[bt]? = some (.cells #[.int .i64 t] 3 (0, 0)))
    (h : d.wp (listP n t { kind := 9, u := u, v := v, w := wt }) s K S)
    (hok : ∀ o s' w' ov, Same d.D w w' → d.Inv M s' w' → ROut M w' ov o → K o s' → Q (.returned ov) w') (hstop : d.Stops d.D M w S Q) :
    Calls Tryd.prog 47 #[d.val, .pointer (some ⟨bo, 0, none⟩), .pointer (some ⟨bt, 0, none⟩)] w Q := by
  have H := hid h; have Hok := hid hok; have HW := hid hw; have HW2 := hid hw2; clear h hok hw hw2
  obtain ⟨c0, c1, c2, c3⟩ := cells4 hbo
  have t0 : w.cell? ⟨bt, 0, none⟩ = some (.int .i64 t) := cell_of_block hbt rfl
  have l0 : bo < w.heap.size := lt_of_some hbo
  have l1 : bt < w.heap.size := lt_of_some hbt
  clear hbo hbt
  have hup : ∀ o, d.Stops d.D (w.heap.size :: M) (w.alloc o) S Q := fun o => hstop.up ((Same.refl _ w).alloc o) (fun _ h => .inl h) (fun _ h => List.mem_cons_of_mem _ h) (d.sub hI)
  have HUP := hid hup; have HI := hid hI; have HST := hid hstop
  clear hup hI hstop
  have H1 : Hid (d.wp (markP t u) s (fun x s' => K { is := x } s') S) := by
    have := H.out; simp only [listP, Int.toNat_natCast] at this; exact hid (d.wp_bind this)
  clear H
  go_enter Tryd.func47, Tryd.ntmps47
  go_wp2_with fail
  refine list_Mark_any d (d.alloc _ HI.out) ht (by omega) H1.out ?_ (fun a s w' av hs hI ha hS => ⟨rfl, HUP.out _ _ _ _ _ hs hI ha hS⟩)
  intro x s' w' hs' hI' hK
  have hb := (hs'.block _ (by simp) (d.notin HI.out (Nat.le_refl _))).trans (block_new w _)
  have HS := hid hs'; have HI' := hid hI'; have HK := hid hK
  clear hs' hI' hK
  have f0 : ∀ o, w'.frozen? ⟨w.heap.size, o, none⟩ = false := fun o => frozen_of_block hb
  obtain ⟨o0, o1, o2, o3, o4⟩ := cells5 hb
  have Hb := hid hb
  clear hb
  go_wp2_with fail
  refine post_gen fun W hW => ?_
  have hb2 : W.heap[w.heap.size]? = some (.cells #[.int .i64 0, .bool x, .int .i64 0, .int .u64 0, .slice none 0 0] 38 (0, 0)) := by rw [hW]; simp [set_at, Hb.out]
  have hW2 : Same [w.heap.size] w' W := by rw [hW]; (repeat refine Same.set ?_ (.inl (List.mem_singleton.2 rfl))); exact Same.refl _ _
  obtain ⟨hS, hI2⟩ := own_block d HI.out HS.out HI'.out hW2
  clear hW o0 o1 o2 o3 o4
  obtain ⟨o0, o1, o2, o3, o4⟩ := cells5 hb2
  refine bodyPost_ret (v := .agg #[.int .i64 0, .bool x, .int .i64 0, .int .u64 0, .slice none 0 0]) (by simp [results, Tryd.results47, go_sem, o0, o1, o2, o3, o4]) rfl ?_
  exact Hok.out { is := x } s' _ _ hS hI2 ⟨_, rfl, Ints.nil _ _, W64_zero⟩ HK.out

theorem list_body10 (d : DoSem) {M : List Nat} {s : d.σ} {w : World} {S : Acc → d.σ → Prop} {Q : Ending → World → Prop} {t n bo bt : Nat} {u v wt : Nat} {K : OutM → d.σ → Prop} (HBy : BytesSpec) (hI : d.Inv M s w) (ht : t ≤ 64)
    (_hu : u ≤ 1048575) (_hv : v ≤ 1048575) (hw : wt < W64) (hw2 : (10 : Int) = 24 → wt ≤ 1048575) (hbo : w.heap[bo]? = some (.cells #[.int .i64 10, .int .i64 u, .int .i64 v, .int .u64 wt] 42 (0, 0))) (hbt : w.heap[bt]? = some (.cells #[.int .i64 t] 3 (0, 0)))
    (h : d.wp (listP n t { kind := 10, u := u, v := v, w := wt }) s K S)
    (hok : ∀ o s' w' ov, Same d.D w w' → d.Inv M s' w' → ROut M w' ov o → K o s' → Q (.returned ov) w') (hstop : d.Stops d.D M w S Q) :
    Calls Tryd.prog 47 #[d.val, .pointer (some ⟨bo, 0, none⟩), .pointer (some ⟨bt, 0, none⟩)] w Q := by
  have H := hid h; have Hok := hid hok; have HW := hid hw; have HW2 := hid hw2; clear h hok hw hw2
  obtain ⟨c0, c1, c2, c3⟩ := cells4 hbo
  have t0 : w.cell? ⟨bt, 0, none⟩ = some (.int .i64 t) := cell_of_block hbt rfl
  have l0 : bo < w.heap.size := lt_of_some hbo
  have l1 : bt < w.heap.size := lt_of_some hbt
  clear hbo hbt
  have hup : ∀ o, d.Stops d.D (w.heap.size :: M) (w.alloc o) S Q := fun o => hstop.up ((Same.refl _ w).alloc o) (fun _ h => .inl h) (fun _ h => List.mem_cons_of_mem _ h) (d.sub hI)
  have HUP := hid hup; have HI := hid hI; have HST := hid hstop
  clear hup hI hstop
  have H1 : Hid (d.wp (sweepP n t wt) s (fun x s' => K { err := if x then 0 else 7 } s') S) := by
    have := H.out; simp only [listP] at this; exact hid (d.wp_bind this)
  clear H
  go_enter Tryd.func47, Tryd.ntmps47
  go_wp2_with fail
  refine list_Sweep_any d HBy (d.alloc _ HI.out) ht HW.out H1.out ?_ (fun a s w' av hs hI ha hS => ⟨rfl, HUP.out _ _ _ _ _ hs hI ha hS⟩)
  intro x s' w' hs' hI' hK
  have hb := (hs'.block _ (by simp) (d.notin HI.out (Nat.le_refl _))).trans (block_new w _)
  have HS := hid hs'; have HI' := hid hI'; have HK := hid hK
  clear hs' hI' hK
  have f0 : ∀ o, w'.frozen? ⟨w.heap.size, o, none⟩ = false := fun o => frozen_of_block hb
  obtain ⟨o0, o1, o2, o3, o4⟩ := cells5 hb
  have Hb := hid hb
  clear hb
  cases x
  · go_wp2_with fail
    refine post_gen fun W hW => ?_
    have hb2 : W.heap[w.heap.size]? = some (.cells #[.int .i64 7, .bool false, .int .i64 0, .int .u64 0, .slice none 0 0] 38 (0, 0)) := by rw [hW]; simp [set_at, Hb.out]
    have hW2 : Same [w.heap.size] w' W := by rw [hW]; (repeat refine Same.set ?_ (.inl (List.mem_singleton.2 rfl))); exact Same.refl _ _
    obtain ⟨hS, hI2⟩ := own_block d HI.out HS.out HI'.out hW2
    clear hW o0 o1 o2 o3 o4
    obtain ⟨o0, o1, o2, o3, o4⟩ := cells5 hb2
    refine bodyPost_ret (v := .agg #[.int .i64 7, .bool false, .int .i64 0, .int .u64 0, .slice none 0 0]) (by simp [results, Tryd.results47, go_sem, o0, o1, o2, o3, o4]) rfl ?_
    exact Hok.out { err := 7 } s' _ _ hS hI2 ⟨_, rfl, Ints.nil _ _, W64_zero⟩ HK.out
  · go_wp2_with fail
    refine post_gen fun W hW => ?_
    have hb2 : W.heap[w.heap.size]? = some (.cells #[.int .i64 0, .bool false, .int .i64 0, .int .u64 0, .slice none 0 0] 38 (0, 0)) := by rw [hW]; simp [set_at, Hb.out]
    have hW2 : Same [w.heap.size] w' W := by rw [hW]; (repeat refine Same.set ?_ (.inl (List.mem_singleton.2 rfl))); exact Same.refl _ _
    obtain ⟨hS, hI2⟩ := own_block d HI.out HS.out HI'.out hW2
    clear hW o0 o1 o2 o3 o4
    obtain ⟨o0, o1, o2, o3, o4⟩ := cells5 hb2
    refine bodyPost_ret (v := .agg #[.int .i64 0, .bool false, .int .i64 0, .int .u64 0, .slice none 0 0]) (by simp [results, Tryd.results47, go_sem, o0, o1, o2, o3, o4]) rfl ?_
    exact Hok.out {} s' _ _ hS hI2 ⟨_, rfl, Ints.nil _ _, W64_zero⟩ HK.out

theorem list_body8 (d : DoSem) {M : List Nat} {s : d.σ} {w : World} {S : Acc → d.σ → Prop} {Q : Ending → World → Prop} {t n bo bt : Nat} {u v wt : Nat} {K : OutM → d.σ → Prop} (HBy : BytesSpec) (hI : d.Inv M s w) (ht : t ≤ 64)
    (_hu : u ≤ 1048575) (_hv : v ≤ 1048575) (hw : wt < W64) (hw2 : (8 : Int) = 24 → wt ≤ 1048575) (hbo : w.heap[bo]? = some (.cells #[.int .i64 8, .int .i64 u, .int .i64 v, .int .u64 wt] 42 (0, 0))) (hbt : w.heap[bt]? = some (.cells #[.int .i64 t] 3 (0, 0)))
    (h : d.wp (listP n t { kind := 8, u := u, v := v, w := wt }) s K S)
    (hok : ∀ o s' w' ov, Same d.D w w' → d.Inv M s' w' → ROut M w' ov o → K o s' → Q (.returned ov) w') (hstop : d.Stops d.D M w S Q) :
    Calls Tryd.prog 47 #[d.val, .pointer (some ⟨bo, 0, none⟩), .pointer (some ⟨bt, 0, none⟩)] w Q := by
  have H := hid h; have Hok := hid hok; have HW := hid hw; have HW2 := hid hw2; clear h hok hw hw2
  obtain ⟨c0, c1, c2, c3⟩ := cells4 hbo
  have t0 : w.cell? ⟨bt, 0, none⟩ = some (.int .i64 t) := cell_of_block hbt rfl
  have l0 : bo < w.heap.size := lt_of_some hbo
  have l1 : bt < w.heap.size := lt_of_some hbt
  clear hbo hbt
  have hup : ∀ o, d.Stops d.D (w.heap.size :: M) (w.alloc o) S Q := fun o => hstop.up ((Same.refl _ w).alloc o) (fun _ h => .inl h) (fun _ h => List.mem_cons_of_mem _ h) (d.sub hI)
  have HUP := hid hup; have HI := hid hI; have HST := hid hstop
  clear hup hI hstop
  have H1 : Hid (d.wp (searchP n t wt) s (fun a s' => K (if a.2.2.2 = false then { err := 7 } else { n := a.2.1, w := a.1, is := a.2.2.1 }) s') S) := by
    have := H.out; simp only [listP] at this
    have := d.wp_bind this
    exact hid (Prog.wp_mono this (fun a s h => by cases ha : a.2.2.2 <;> (simp only [ha] at h ⊢; exact d.wp_ret h)) (fun _ _ h => h))
  clear H
  go_enter Tryd.func47, Tryd.ntmps47
  go_wp2_with fail
  refine list_Search_any d HBy (d.alloc _ HI.out) ht HW.out H1.out ?_ (fun a s w' av hs hI ha hS => ⟨rfl, HUP.out _ _ _ _ _ hs hI ha hS⟩)
  rintro ⟨a1, a2, a3, a4⟩ s' w' hs' hI' hx hx2 hK
  have hb := (hs'.block _ (by simp) (d.notin HI.out (Nat.le_refl _))).trans (block_new w _)
  have HS := hid hs'; have HI' := hid hI'; have HK := hid hK
  clear hs' hI' hK
  have f0 : ∀ o, w'.frozen? ⟨w.heap.size, o, none⟩ = false := fun o => frozen_of_block hb
  obtain ⟨o0, o1, o2, o3, o4⟩ := cells5 hb
  have Hb := hid hb
  clear hb
  simp only at hx hx2
  cases a4
  · go_wp2_with fail
    refine post_gen fun W hW => ?_
    have hb2 : W.heap[w.heap.size]? = some (.cells #[.int .i64 7, .bool false, .int .i64 0, .int .u64 0, .slice none 0 0] 38 (0, 0)) := by rw [hW]; simp [set_at, Hb.out]
    have hW2 : Same [w.heap.size] w' W := by rw [hW]; (repeat refine Same.set ?_ (.inl (List.mem_singleton.2 rfl))); exact Same.refl _ _
    obtain ⟨hS, hI2⟩ := own_block d HI.out HS.out HI'.out hW2
    clear hW o0 o1 o2 o3 o4
    obtain ⟨o0, o1, o2, o3, o4⟩ := cells5 hb2
    refine bodyPost_ret (v := .agg #[.int .i64 7, .bool false, .int .i64 0, .int .u64 0, .slice none 0 0]) (by simp [results, Tryd.results47, go_sem, o0, o1, o2, o3, o4]) rfl ?_
    exact Hok.out { err := 7 } s' _ _ hS hI2 ⟨_, rfl, Ints.nil _ _, W64_zero⟩ HK.out
  · go_wp2_with fail
    refine post_gen fun W hW => ?_
    have hb2 : W.heap[w.heap.size]? = some (.cells #[.int .i64 0, .bool a3, .int .i64 (a2 : Nat), .int .u64 (a1 : Nat), .slice none 0 0] 38 (0, 0)) := by rw [hW]; simp [set_at, Hb.out]
    have hW2 : Same [w.heap.size] w' W := by rw [hW]; (repeat refine Same.set ?_ (.inl (List.mem_singleton.2 rfl))); exact Same.refl _ _
    obtain ⟨hS, hI2⟩ := own_block d HI.out HS.out HI'.out hW2
    clear hW o0 o1 o2 o3 o4
    obtain ⟨o0, o1, o2, o3, o4⟩ := cells5 hb2
    refine bodyPost_ret (v := .agg #[.int .i64 0, .bool a3, .int .i64 (a2 : Nat), .int .u64 (a1 : Nat), .slice none 0 0]) (by simp [results, Tryd.results47, go_sem, o0, o1, o2, o3, o4]) rfl ?_
    exact Hok.out { n := a2, w := a1, is := a3 } s' _ _ hS hI2 ⟨_, rfl, Ints.nil _ _, show a1 < 18446744073709551616 by omega⟩ HK.out

theorem list_bodyx {kd : Int} (k8 : ¬ kd = 8) (k9 : ¬ kd = 9) (k10 : ¬ kd = 10) (k24 : ¬ kd = 24) (k25 : ¬ kd = 25) (d : DoSem) {M : List Nat} {s : d.σ} {w : World} {S : Acc → d.σ → Prop} {Q : Ending → World → Prop} {t n bo bt : Nat} {u v wt : Nat} {K : OutM → d.σ → Prop} (_HBy : BytesSpec) (hI : d.Inv M s w) (_ht : t ≤ 64)
    (_hu : u ≤ 1048575) (_hv : v ≤ 1048575) (hw : wt < W64) (hw2 : kd = 24 → wt ≤ 1048575) (hbo : w.heap[bo]? = some (.cells #[.int .i64 kd, .int .i64 u, .int .i64 v, .int .u64 wt] 42 (0, 0))) (hbt : w.heap[bt]? = some (.cells #[.int .i64 t] 3 (0, 0)))
    (h : d.wp (listP n t { kind := kd, u := u, v := v, w := wt }) s K S)
    (hok : ∀ o s' w' ov, Same d.D w w' → d.Inv M s' w' → ROut M w' ov o → K o s' → Q (.returned ov) w') (hstop : d.Stops d.D M w S Q) :
    Calls Tryd.prog 47 #[d.val, .pointer (some ⟨bo, 0, none⟩), .pointer (some ⟨bt, 0, none⟩)] w Q := by
  have H := hid h; have Hok := hid hok; have HW := hid hw; have HW2 := hid hw2; clear h hok hw hw2
  obtain ⟨c0, c1, c2, c3⟩ := cells4 hbo
  have t0 : w.cell? ⟨bt, 0, none⟩ = some (.int .i64 t) := cell_of_block hbt rfl
  have l0 : bo < w.heap.size := lt_of_some hbo
  have l1 : bt < w.heap.size := lt_of_some hbt
  clear hbo hbt
  have hup : ∀ o, d.Stops d.D (w.heap.size :: M) (w.alloc o) S Q := fun o => hstop.up ((Same.refl _ w).alloc o) (fun _ h => .inl h) (fun _ h => List.mem_cons_of_mem _ h) (d.sub hI)
  have HUP := hid hup; have HI := hid hI; have HST := hid hstop
  clear hup hI hstop
  have H1 : K { err := 1 } s := by
    have := H.out; simp only [listP, k8, k9, k10, k24, k25, if_false] at this; exact d.wp_ret this
  have H1 := hid H1
  clear H
  have g1 : (kd == 8) = false := by simpa using k8
  have g2 : (kd == 9) = false := by simpa using k9
  have g3 : (kd == 10) = false := by simpa using k10
  have g4 : (kd == 24) = false := by simpa using k24
  have g5 : (kd == 25) = false := by simpa using k25
  go_enter Tryd.func47, Tryd.ntmps47
  go_wp2_with fail
  refine bodyPost_ret (v := .agg #[.int .i64 1, .bool false, .int .i64 0, .int .u64 0, .slice none 0 0]) (by simp [results, Tryd.results47, go_sem]) rfl ?_
  obtain ⟨hS, hI2⟩ := own_block d HI.out (Same.refl _ _) (d.alloc (.cells #[.int .i64 1, .bool false, .int .i64 0, .int .u64 0, .slice none 0 0] 38 (0, 0)) HI.out) (Same.refl _ _)
  exact Hok.out { err := 1 } s _ _ hS hI2 ⟨_, rfl, Ints.nil _ _, W64_zero⟩ H1.out

theorem list_body (d : DoSem) {M : List Nat} {s : d.σ} {w : World} {S : Acc → d.σ → Prop} {Q : Ending → World → Prop} {t n bo bt : Nat} {kd : Int} {u v wt : Nat} {K : OutM → d.σ → Prop} (HBy : BytesSpec) (hI : d.Inv M s w) (ht : t ≤ 64)
    (hu : u ≤ 1048575) (hv : v ≤ 1048575) (hw : wt < W64) (hw2 : kd = 24 → wt ≤ 1048575) (hbo : w.heap[bo]? = some (.cells #[.int .i64 kd, .int .i64 u, .int .i64 v, .int .u64 wt] 42 (0, 0))) (hbt : w.heap[bt]? = some (.cells #[.int .i64 t] 3 (0, 0)))
    (h : d.wp (listP n t { kind := kd, u := u, v := v, w := wt }) s K S)
    (hok : ∀ o s' w' ov, Same d.D w w' → d.Inv M s' w' → ROut M w' ov o → K o s' → Q (.returned ov) w') (hstop : d.Stops d.D M w S Q) :
    Calls Tryd.prog 47 #[d.val, .pointer (some ⟨bo, 0, none⟩), .pointer (some ⟨bt, 0, none⟩)] w Q := by
  by_cases k24 : kd = 24
  · subst k24; exact list_body24 d HBy hI ht hu hv hw hw2 hbo hbt h hok hstop
  by_cases k25 : kd = 25
  · subst k25; exact list_body25 d HBy hI ht hu hv hw hw2 hbo hbt h hok hstop
  by_cases k9 : kd = 9
  · subst k9; exact list_body9 d HBy hI ht hu hv hw hw2 hbo hbt h hok hstop
  by_cases k10 : kd = 10
  · subst k10; exact list_body10 d HBy hI ht hu hv hw hw2 hbo hbt h hok hstop
  by_cases k8 : kd = 8
  · subst k8; exact list_body8 d HBy hI ht hu hv hw hw2 hbo hbt h hok hstop
  exact list_bodyx k8 k9 k10 k24 k25 d HBy hI ht hu hv hw hw2 hbo hbt h hok hstop

theorem list_Next_any {M0 : List Nat} {w : World} {t n me : Nat} {c kd : Int} {u v wt : Nat} {logv : Value} {log : List Res} {K : OutM → Nat → Prop} {S : Acc → Nat → Prop} {Q : Ending → World → Prop} (HBy : BytesSpec) (ht : t ≤ 64)
    (hu : u ≤ 1048575) (hv : v ≤ 1048575) (hw : wt < W64) (hw2 : kd = 24 → wt ≤ 1048575) (hh : Halves w) (h0 : 0 ∉ M0) (hM0 : ∀ k, k ∈ M0 → k < w.heap.size) (hlog : RLog M0 w logv log) (h : (listP n t { kind := kd, u := u, v := v, w := wt }).wp (logStep log) 0 K S)
    (hok : ∀ o s w' ov, Same [] w w' → ROut M0 w' ov o → K o s → Q (.returned (.tuple #[.agg accZero, ov, .bool true])) w')
    (hstop : ∀ a s w' av, Same [] w w' → RAcc M0 w' av a → S a s → Q (.returned (.tuple #[av, .agg outZero, .bool false])) w') :
    Calls Tryd.prog 25 #[.int .i64 t, .int .i64 c, .int .i64 me, .agg #[.int .i64 kd, .int .i64 u, .int .i64 v, .int .u64 wt], logv] w Q := by
  have hmf : ∀ (fn : Fn) (first cap : Array Value) (w : World), (Instr.makeFunc fn first cap).run Tryd.prog w = .ok (.func fn first cap) w := fun _ _ _ _ => rfl
  obtain ⟨la, lc, rfl, hmax⟩ := hlog.form
  have Hlog := hid hlog; have H := hid h; have Hok := hid hok; have Hstop := hid hstop; have Hh := hid hh; have HW := hid hw; have HW2 := hid hw2
  clear hlog h hok hstop hh hw hw2
  go_enter Tryd.func25, Tryd.ntmps25
  go_wp2_with fail
  refine calls_gen fun W hW => ?_
  have hsame : Same [] w W := by rw [hW]; exact (((Same.refl _ w).alloc _).alloc _ |>.alloc _).alloc _
  have b0 : W.heap[w.heap.size]? = some (.cells #[.int .i64 t] 3 (0, 0)) := by rw [hW]; exact block_old (block_old (block_old (block_new _ _)))
  have b1 : W.heap[w.heap.size + 1]? = some (.cells #[.int .i64 kd, .int .i64 u, .int .i64 v, .int .u64 wt] 42 (0, 0)) := by rw [hW]; exact block_old (block_old (block_at (by simp)))
  have b2 : W.heap[w.heap.size + 1 + 1]? = some (.cells accZero 73 (0, 0)) := by rw [hW]; exact block_old (block_at (by simp))
  have b3 : W.heap[w.heap.size + 1 + 1 + 1]? = some (.cells outZero 38 (0, 0)) := by rw [hW]; exact block_at (by simp)
  clear hW
  have hH : Halves W := Hh.out.same hsame (by simp)
  have l1 := lt_of_some b1
  refine Run_any (P := listP n t { kind := kd, u := u, v := v, w := wt }) (K := K) (S := S) (fun _ _ => by kernel_rfl) (M0 := ((w.heap.size + 1 + 1) :: (w.heap.size + 1 + 1 + 1) :: M0)) ?_ hH ?_ ?_ ((Hlog.out.grow (M' := ((w.heap.size + 1 + 1) :: (w.heap.size + 1 + 1 + 1) :: M0)) (fun x hx => by simp at hx; rcases hx with h | h | h <;> first | exact .inl h | (right; omega))).same hsame (by simp)) H.out ?_ ?_
  · intro d M s w' K' S' Q' hs hM hI hd hok' hstop'
    exact list_body d HBy hI ht hu hv HW.out HW2.out ((hs.block _ l1 (by simp)).trans b1) ((hs.block _ (by omega) (by simp)).trans b0) hd hok' hstop'
  · intro hm
    have hlt := Hh.out.lt
    rcases List.mem_cons.1 hm with h | h
    · omega
    · rcases List.mem_cons.1 h with h | h
      · omega
      · exact h0 h
  · intro k hk; simp at hk; have := hsame.size; have := lt_of_some b3; rcases hk with hk | hk | hk <;> first | omega | (have := hM0 k hk; omega)
  · intro o s w' ov hs ho hK
    obtain ⟨lv, rfl, hl, hr⟩ := ho
    obtain ⟨oa, ol, oc, rfl⟩ := hl.form
    have HK := hid hK; have HL := hid hl; clear hK hl
    have d2 := (hs.block _ (lt_of_some b2) (by simp)).trans b2
    have d3 := (hs.block _ (lt_of_some b3) (by simp)).trans b3
    have f2 : ∀ o, w'.frozen? ⟨w.heap.size + 1 + 1, o, none⟩ = false := fun o => frozen_of_block d2
    have f3 : ∀ o, w'.frozen? ⟨w.heap.size + 1 + 1 + 1, o, none⟩ = false := fun o => frozen_of_block d3
    obtain ⟨a0, a1, a2, a3, a4, a5⟩ := cells6 d2
    obtain ⟨o0, o1, o2, o3, o4⟩ := cells5 d3
    have D2 := hid d2; have D3 := hid d3; have HS := hid hs; have HSame := hid hsame; have HR := hid hr
    clear d2 d3 hs b0 b1 b2 b3 hH l1 hsame hr
    unfold accZero
    go_wp2_with fail
    refine post_gen fun W2 hW2 => ?_
    have k23 : ¬ w.heap.size + 1 + 1 = w.heap.size + 1 + 1 + 1 := by omega
    have k32 : ¬ w.heap.size + 1 + 1 + 1 = w.heap.size + 1 + 1 := by omega
    have e2 : W2.heap[w.heap.size + 1 + 1]? = some (.cells accZero 73 (0, 0)) := by
      rw [hW2]; simp only [block_set_other k23]; simp [set_at, D2.out, accZero]
    have e3 : W2.heap[w.heap.size + 1 + 1 + 1]? = some (.cells #[.int .i64 o.err, .bool o.is, .int .i64 o.n, .int .u64 o.w, .slice oa ol oc] 38 (0, 0)) := by
      rw [hW2]; simp [set_at, block_set_other k32, D3.out, outZero]
    have s2 : Same [w.heap.size + 1 + 1, w.heap.size + 1 + 1 + 1] w' W2 := by rw [hW2]; (repeat refine Same.set ?_ (.inl (by simp))); exact Same.refl _ _
    have hmm : ∀ x, x ∈ [w.heap.size + 1 + 1, w.heap.size + 1 + 1 + 1] → x ∈ ((w.heap.size + 1 + 1) :: (w.heap.size + 1 + 1 + 1) :: M0) := fun x hx => by simp at hx; rcases hx with h | h <;> simp [h]
    have hm0 : ∀ x, x ∈ M0 → x ∈ ((w.heap.size + 1 + 1) :: (w.heap.size + 1 + 1 + 1) :: M0) ∨ W2.heap.size ≤ x := fun x hx => .inl (by simp [hx])
    have hall : Same [] w W2 := (HSame.out.trans ((HS.out.mono (D' := [w.heap.size + 1 + 1, w.heap.size + 1 + 1 + 1]) (by simp)).trans s2 (fun x hx => .inl hx)) (fun x hx => .inr (by simp at hx; omega)))
    clear hW2 a0 a1 a2 a3 a4 a5 o0 o1 o2 o3 o4 f2 f3
    obtain ⟨a0, a1, a2, a3, a4, a5⟩ := cells6 e2
    obtain ⟨o0, o1, o2, o3, o4⟩ := cells5 e3
    refine bodyPost_ret (v := .tuple #[.agg accZero, .agg #[.int .i64 o.err, .bool o.is, .int .i64 o.n, .int .u64 o.w, .slice oa ol oc], .bool true]) (by simp [results, Tryd.results25, go_sem, a0, a1, a2, a3, a4, a5, o0, o1, o2, o3, o4, accZero]) rfl ?_
    exact Hok.out o s W2 _ hall ⟨_, rfl, (HL.out.same s2 hmm).grow hm0, HR.out⟩ HK.out
  · intro a s w' av hs ha hK
    obtain ⟨dv, wv, rfl, hdv, hwv, hr⟩ := ha
    obtain ⟨da, dl, dc, rfl⟩ := hdv.form
    obtain ⟨wa, wl, wc, rfl⟩ := hwv.form
    have HK := hid hK; have HL := hid hdv; have HL2 := hid hwv; clear hK hdv hwv
    have d2 := (hs.block _ (lt_of_some b2) (by simp)).trans b2
    have d3 := (hs.block _ (lt_of_some b3) (by simp)).trans b3
    have f2 : ∀ o, w'.frozen? ⟨w.heap.size + 1 + 1, o, none⟩ = false := fun o => frozen_of_block d2
    have f3 : ∀ o, w'.frozen? ⟨w.heap.size + 1 + 1 + 1, o, none⟩ = false := fun o => frozen_of_block d3
    obtain ⟨a0, a1, a2, a3, a4, a5⟩ := cells6 d2
    obtain ⟨o0, o1, o2, o3, o4⟩ := cells5 d3
    have D2 := hid d2; have D3 := hid d3; have HS := hid hs; have HSame := hid hsame; have HR := hid hr
    clear d2 d3 hs b0 b1 b2 b3 hH l1 hsame hr
    unfold outZero
    go_wp2_with fail
    refine post_gen fun W2 hW2 => ?_
    have k23 : ¬ w.heap.size + 1 + 1 = w.heap.size + 1 + 1 + 1 := by omega
    have k32 : ¬ w.heap.size + 1 + 1 + 1 = w.heap.size + 1 + 1 := by omega
    have e2 : W2.heap[w.heap.size + 1 + 1]? = some (.cells #[.int .i64 a.kind, .int .i64 a.cell, .int .u64 a.a, .int .u64 a.b, .slice da dl dc, .slice wa wl wc] 73 (0, 0)) := by
      rw [hW2]; simp only [block_set_other k23]; simp [set_at, D2.out, accZero]
    have e3 : W2.heap[w.heap.size + 1 + 1 + 1]? = some (.cells outZero 38 (0, 0)) := by
      rw [hW2]; simp [set_at, block_set_other k32, D3.out, outZero]
    have s2 : Same [w.heap.size + 1 + 1, w.heap.size + 1 + 1 + 1] w' W2 := by rw [hW2]; (repeat refine Same.set ?_ (.inl (by simp))); exact Same.refl _ _
    have hmm : ∀ x, x ∈ [w.heap.size + 1 + 1, w.heap.size + 1 + 1 + 1] → x ∈ ((w.heap.size + 1 + 1) :: (w.heap.size + 1 + 1 + 1) :: M0) := fun x hx => by simp at hx; rcases hx with h | h <;> simp [h]
    have hm0 : ∀ x, x ∈ M0 → x ∈ ((w.heap.size + 1 + 1) :: (w.heap.size + 1 + 1 + 1) :: M0) ∨ W2.heap.size ≤ x := fun x hx => .inl (by simp [hx])
    have hall : Same [] w W2 := (HSame.out.trans ((HS.out.mono (D' := [w.heap.size + 1 + 1, w.heap.size + 1 + 1 + 1]) (by simp)).trans s2 (fun x hx => .inl hx)) (fun x hx => .inr (by simp at hx; omega)))
    clear hW2 a0 a1 a2 a3 a4 a5 o0 o1 o2 o3 o4 f2 f3
    obtain ⟨a0, a1, a2, a3, a4, a5⟩ := cells6 e2
    obtain ⟨o0, o1, o2, o3, o4⟩ := cells5 e3
    refine bodyPost_ret (v := .tuple #[.agg #[.int .i64 a.kind, .int .i64 a.cell, .int .u64 a.a, .int .u64 a.b, .slice da dl dc, .slice wa wl wc], .agg outZero, .bool false]) (by simp [results, Tryd.results25, go_sem, a0, a1, a2, a3, a4, a5, o0, o1, o2, o3, o4, outZero]) rfl ?_
    exact Hstop.out a s W2 _ hall ⟨_, _, rfl, (HL.out.same s2 hmm).grow hm0, (HL2.out.same s2 hmm).grow hm0, HR.out⟩ HK.out
end Go.Proofs.YtdfeinfaljidgaaDoor
