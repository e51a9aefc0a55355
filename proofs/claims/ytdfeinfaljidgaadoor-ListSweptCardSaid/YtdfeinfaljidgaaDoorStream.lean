/- stream.Append, stream.Sync; disk.Append, disk.Sync. -/
import Derived.Test.YtdfeinfaljidgaaDoorDisk
namespace Go.Proofs.YtdfeinfaljidgaaDoor
open Go Go.RowKit

theorem Sl.cut {M : List Nat} {w : World} {a : Option Addr} {l c sz : Nat} {cs : List Value} (h : Sl M w (.slice a l c) sz cs) : Sl M w (.slice a l l) sz cs := by
  obtain ⟨a', l', c', h1, h2, h3, h4, h5⟩ := h
  simp only [Value.slice.injEq] at h1
  obtain ⟨rfl, rfl, rfl⟩ := h1
  exact ⟨_, _, _, rfl, h2, Nat.le_refl _, h4, h5.imp (fun ⟨x, y, _⟩ => ⟨x, y, y⟩) id⟩

theorem stream_Sync {M : List Nat} {w : World} {bv : Value} {s : StreamM} (h : Bytes M w bv s.data) :
    Calls Tryd.prog 76 #[.agg #[bv, .int .i64 s.synced]] w fun e w' => Same [] w w' ∧ ∃ bv', e = .returned (.agg #[bv', .int .i64 (syncM s).synced]) ∧ Bytes M w' bv' (syncM s).data := by
  obtain ⟨a, l, c, rfl⟩ := h.form
  have hl : l = s.data.length := by
    obtain ⟨a', l', c', h1, h2, _⟩ := h
    simp only [Value.slice.injEq] at h1
    obtain ⟨_, rfl, _⟩ := h1
    simpa using h2.symm
  subst hl
  have H := hid h; clear h
  go_enter Tryd.func76, Tryd.ntmps76
  go_wp2_with fail
  have hs : ∀ o o', Same [] w ((w.alloc o).alloc o') := fun o o' => ((Same.refl [] w).alloc o).alloc o'
  refine bodyPost_ret (v := .agg #[.slice a s.data.length c, .int .i64 s.data.length]) (by simp [results, Tryd.results76, go_sem]) rfl ?_
  exact ⟨hs _ _, _, rfl, H.out.same (hs _ _) (by simp)⟩

@[go_sem] theorem und_bytes : Tryd.prog.underlying 22 = some (.slice 5) := by kernel_rfl
theorem info_bytes : (Tryd.prog.info? 5).map (fun i => (i.zero, i.size, i.bytes)) = some (some (.int .u8 0), 1, 1) := by kernel_rfl

set_option maxRecDepth 100000 in
theorem stream_Append {M Mx : List Nat} {w : World} {bv xv : Value} {s : StreamM} {xs : List UInt8} (h : Bytes M w bv s.data) (hx : Bytes Mx w xv xs) (hM : ∀ k, k ∈ M → k < w.heap.size) (hsm : s.data.length + xs.length ≤ 1000000000) :
    Calls Tryd.prog 75 #[.agg #[bv, .int .i64 s.synced], xv] w fun e w' => Same [] w w' ∧ ∃ bv', e = .returned (.agg #[bv', .int .i64 (appendM s xs).synced]) ∧ Bytes M w' bv' (appendM s xs).data := by
  obtain ⟨a, l, c, rfl⟩ := h.form
  have hl : l = s.data.length ∧ l ≤ c := by
    obtain ⟨a', l', c', h1, h2, h3, _⟩ := h
    simp only [Value.slice.injEq] at h1
    obtain ⟨_, rfl, rfl⟩ := h1
    exact ⟨by simpa using h2.symm, h3⟩
  obtain ⟨rfl, hlc⟩ := hl
  obtain ⟨xa, xl, xc, rfl⟩ := hx.form
  have H := hid h; have HX := hid hx; have HM := hid hM; have HS := hid hsm; clear h hx hM hsm
  obtain ⟨i, hi, hz0, hz1, hz2⟩ := info_parts info_bytes
  have h1 : ∀ u, u ∈ (xs.map fun n : UInt8 => Value.int .u8 n.toNat) → u.oneCell' = true := fun u hu => by obtain ⟨_, _, rfl⟩ := List.mem_map.1 hu; rfl
  have H1 := hid h1; clear h1
  have hs0 : ∀ o o', Same [] w ((w.alloc o).alloc o') := fun o o' => ((Same.refl [] w).alloc o).alloc o'
  have hgr : ∀ x, x ∈ w.heap.size :: (w.heap.size + 1) :: M → x ∈ M ∨ w.heap.size ≤ x := fun x hx => by simp at hx; rcases hx with h | h | h <;> first | exact .inl h | (right; omega)
  have hsl := fun o o' => Sl.same (Sl.grow (Sl.cut H.out) hgr) (hs0 o o') (by simp)
  have hslx := fun o o' => Sl.same HX.out (hs0 o o') (by simp)
  have hMs : ∀ o o', ∀ k, k ∈ w.heap.size :: (w.heap.size + 1) :: M → k < ((w.alloc o).alloc o').heap.size := fun o o' k hk => by simp at hk ⊢; rcases hk with h | h | h <;> first | omega | (have := HM.out k h; omega)
  have HSL := hid hsl; have HSLX := hid hslx; have HMS := hid hMs; have HS0 := hid hs0
  clear hsl hslx hMs hs0 hgr
  go_enter Tryd.func75, Tryd.ntmps75
  go_wp2_with (at_builtin; refine wpList_app_tight rfl (.tmp 13) (.tmp 14) 22 rfl 5 i (.int .u8 0) 1 1 und_bytes hi hz0 hz1 hz2 (HSL.out _ _) (HSLX.out _ _) H1.out (HMS.out _ _) (by decide) rfl (by have := HS.out; simp; omega) (by have := HS.out; simp; omega) rfl rfl ?_; intro v' w' hs hv' _ _; obtain ⟨va, vl, vc, rfl⟩ := hv'.form; have c0 := (hs.block w.heap.size (by simp; omega) (by simp)).trans (block_old (block_new w _)); have c1 := (hs.block (w.heap.size + 1) (by simp) (by simp)).trans (block_at (by simp)); have g0 := fun o => frozen_of_block (o := o) c0; have g1 := fun o => frozen_of_block (o := o) c1; obtain ⟨x0, x1⟩ := cells2 c0; obtain ⟨y0, y1⟩ := cells2 c1; have C0 := hid c0; have C1 := hid c1; clear c0 c1)
  refine post_gen fun W6 hW6 => ?_
  have t6 : Same [w.heap.size, w.heap.size + 1] w' W6 := by rw [hW6]; exact (((Same.refl _ _).set (.inl (by simp))).set (.inl (by simp))).set (.inl (by simp))
  have k10 : ¬ w.heap.size + 1 = w.heap.size := by omega
  have e1 : W6.heap[w.heap.size + 1]? = some (.cells #[.slice va vl vc, .int .i64 s.synced] 130 (0, 0)) := by rw [hW6]; simp [set_at, block_set_other k10, C1.out]
  clear hW6 x0 x1 y0 y1 g0 g1
  obtain ⟨y0, y1⟩ := cells2 e1
  refine bodyPost_ret (v := .agg #[.slice va vl vc, .int .i64 s.synced]) (by simp [results, Tryd.results75, go_sem, y0, y1]) rfl ?_
  refine ⟨((HS0.out _ _).then hs).trans t6 (fun x hx => .inr (by simp at hx; omega)), _, rfl, ?_⟩
  have hv2 : Sl (w.heap.size :: (w.heap.size + 1) :: M) w' (.slice va vl vc) 1 ((appendM s xs).data.map fun n : UInt8 => Value.int .u8 n.toNat) := by simpa [appendM] using hv'
  exact (Sl.same hv2 t6 (fun x hx => by simp at hx; rcases hx with h | h <;> simp [h])).grow (fun x hx => .inl (by simp [hx]))

theorem append_by {M : List Nat} {w : World} {b : Nat} {xv : Value} {s : StreamM} {xs : List UInt8} (hb : w.heap[b]? = some (.cells #[xv] 22 (0, 0))) (hx : Bytes [] w xv xs) (hsm : s.data.length + xs.length ≤ 1000000000) :
    ByOk 74 #[.pointer (some ⟨b, 0, none⟩)] (fun s => appendM s xs) M w s := by
  intro M' w' bv hs hM' hlt hbv
  have hb' := (hs.block _ (lt_of_some hb) (by simp)).trans hb
  have hx' := hx.same hs (by simp)
  have lb := lt_of_some hb'
  obtain ⟨xa, xl, xc, rfl⟩ := hx.form
  obtain ⟨va, vl, vc, rfl⟩ := hbv.form
  have q0 : w'.cell? ⟨b, 0, none⟩ = some (.slice xa xl xc) := cell_of_block hb' rfl
  have HX := hid hx'; have HB := hid hbv; have HL := hid hlt; have HS := hid hsm
  clear hx hx' hbv hlt hsm hs hb hb' hM'
  go_enter Tryd.func74, Tryd.ntmps74
  go_wp2_with fail
  have hs0 : ∀ o o', Same [] w' ((w'.alloc o).alloc o') := fun o o' => ((Same.refl [] w').alloc o).alloc o'
  have hgr : ∀ x, x ∈ w'.heap.size :: (w'.heap.size + 1) :: M' → x ∈ M' ∨ w'.heap.size ≤ x := fun x hx => by simp at hx; rcases hx with h | h | h <;> first | exact .inl h | (right; omega)
  refine (stream_Append (M := w'.heap.size :: (w'.heap.size + 1) :: M') ((HB.out.grow hgr).same (hs0 _ _) (by simp)) (HX.out.same (hs0 _ _) (by simp)) (fun k hk => by simp at hk ⊢; rcases hk with h | h | h <;> first | omega | (have := HL.out k h; omega)) HS.out).mono ?_
  rintro e w2 ⟨hs2, bv', rfl, hbv'⟩
  obtain ⟨va', vl', vc', rfl⟩ := hbv'.form
  have c1 := (hs2.block (w'.heap.size + 1) (by simp) (by simp)).trans (block_at (by simp))
  have g1 := fun o => frozen_of_block (o := o) c1
  obtain ⟨y0, y1⟩ := cells2 c1
  have C1 := hid c1; have HB2 := hid hbv'; have HS2 := hid hs2; clear c1 hbv' hs2
  go_wp2_with fail
  refine post_gen fun W6 hW6 => ?_
  have t6 : Same [w'.heap.size, w'.heap.size + 1] w2 W6 := by rw [hW6]; exact ((Same.refl _ _).set (.inl (by simp))).set (.inl (by simp))
  have e1 : W6.heap[w'.heap.size + 1]? = some (.cells #[.slice va' vl' vc', .int .i64 (appendM s xs).synced] 130 (0, 0)) := by rw [hW6]; simp [set_at, C1.out]
  clear hW6 y0 y1 g1
  obtain ⟨y0, y1⟩ := cells2 e1
  refine bodyPost_ret (v := .agg #[.slice va' vl' vc', .int .i64 (appendM s xs).synced]) (by simp [results, Tryd.results74, go_sem, y0, y1]) rfl ?_
  refine ⟨((hs0 _ _).then HS2.out).trans t6 (fun x hx => .inr (by simp at hx; omega)), _, rfl, ?_⟩
  exact (HB2.out.same t6 (fun x hx => by simp at hx; rcases hx with h | h <;> simp [h])).grow (fun x hx => .inl (by simp [hx]))

theorem sync_by {M : List Nat} {w : World} {s : StreamM} : ByOk 76 #[] syncM M w s := by
  intro M' w' bv hs hM' hlt hbv
  exact stream_Sync hbv
end Go.Proofs.YtdfeinfaljidgaaDoor
