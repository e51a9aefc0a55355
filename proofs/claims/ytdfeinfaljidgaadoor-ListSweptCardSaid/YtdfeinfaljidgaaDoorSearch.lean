/- The contract of list.Search over whoever makes its accesses. -/
import Derived.Test.YtdfeinfaljidgaaDoorAlong
namespace Go.Proofs.YtdfeinfaljidgaaDoor
open Go Go.RowKit

section
variable (d : DoSem) {M : List Nat} {s : d.σ} {w : World} {t : Nat} {Q : Ending → World → Prop} {S : Acc → d.σ → Prop}

/-- Search's closure. -/
theorem searchStop_any {m bw bk bf k nx pred curr : Nat} {x : Bool} {K : (Bool × Bool × Bool) → d.σ → Prop} (hI : d.Inv M s w) (hW : WalkAt d m t pred curr w) (ht : t ≤ 64) (hc : curr ≤ 1048575) (hk : k < W64) (hmD : m ∉ d.D) (hfD : bf ∉ d.D) (hfM : bf ∈ M) (hkD : bk ∉ d.D) (hkf : bk ≠ bf)
    (c0 : w.cell? ⟨bw, 0, none⟩ = some (.pointer (some ⟨m, 0, none⟩))) (hbk : w.heap[bk]? = some (.cells #[.int .u64 k] 27 (0, 0))) (hbf : w.heap[bf]? = some (.cells #[.bool x] 4 (0, 0)))
    (h : d.wp (searchStop t k x curr nx) s K S)
    (hok : ∀ a s' w', Same (bf :: d.D) w w' → d.Inv M s' w' → w'.heap[bf]? = some (.cells #[.bool a.1] 4 (0, 0)) → K a s' → Q (.returned (.tuple #[.bool a.2.1, .bool a.2.2])) w') (hstop : d.Stops d.D M w S Q) :
    Calls Tryd.prog 32 #[.int .u64 nx, .pointer (some ⟨bw, 0, none⟩), .pointer (some ⟨bk, 0, none⟩), .pointer (some ⟨bf, 0, none⟩)] w Q := by
  have HW := hid hW; have Hbk := hid hbk; have Hbf := hid hbf; have H := hid h; have HK0 := hid hk; clear hW hbk hbf h hk
  go_enter Tryd.func32, Tryd.ntmps32
  go_wp2_with fail
  refine wfield_any d (f := 1) hI HW.out ht (by omega) (by omega) hmD (d.wp_bind H.out) ?_ (fun _ _ _ _ hs hI ha hS => ⟨rfl, hstop _ _ _ _ hs hI ha hS⟩)
  intro n s1 w1 hs1 hI1 hn hK
  have HN := hid hn; have HK := hid (d.wp_ret hK); clear hn hK H
  have k0 : w1.heap[bk]? = some (.cells #[.int .u64 k] 27 (0, 0)) := (hs1.block _ (lt_of_some Hbk.out) hkD).trans Hbk.out
  have f0 : w1.heap[bf]? = some (.cells #[.bool x] 4 (0, 0)) := (hs1.block _ (lt_of_some Hbf.out) hfD).trans Hbf.out
  have q0 : w1.cell? ⟨bk, 0, none⟩ = some (.int .u64 k) := cell_of_block k0 rfl
  have q1 : w1.cell? ⟨bf, 0, none⟩ = some (.bool x) := cell_of_block f0 rfl
  have q2 : w1.frozen? ⟨bf, 0, none⟩ = false := frozen_of_block f0
  have q3 : ∀ v, (w1.setCell ⟨bf, 0, none⟩ v).cell? ⟨bk, 0, none⟩ = some (.int .u64 k) := fun v => cell_of_block ((block_set_other hkf).trans k0) rfl
  have F0 := hid f0
  clear k0 f0
  go_wp2_with fail
  have e1 : (((n : Nat) : Int) == (k : Int)) = (n == k) := by rw [Bool.eq_iff_iff]; simp; omega
  rw [e1]
  exact hok (n == k, decide (k ≤ n), false) _ _ ((hs1.mono fun x hx => .inl (List.mem_cons_of_mem _ hx)).set (.inl (List.mem_cons_self ..))) (d.setLocal hI1 hfM hfD) (block_set F0.out) HK.out

theorem list_Search_any {n k : Nat} {K : (Nat × Nat × Bool × Bool) → d.σ → Prop} (HBy : BytesSpec) (hI : d.Inv M s w) (ht : t ≤ 64) (hk : k < W64)
    (h : d.wp (searchP n t k) s K S) (hok : ∀ a s' w', Same d.D w w' → d.Inv M s' w' → a.1 ≤ 1048575 → a.2.1 ≤ 1048575 → K a s' → Q (.returned (.tuple #[.int .i64 (a.1 : Nat), .int .i64 (a.2.1 : Nat), .bool a.2.2.1, .bool a.2.2.2])) w') (hstop : d.Stops d.D M w S Q) :
    Calls Tryd.prog 17 #[d.val, .int .i64 t, .int .u64 k] w Q := by
  have HK0 := hid hk; clear hk
  have hmf : ∀ (fn : Fn) (first cap : Array Value) (w : World), (Instr.makeFunc fn first cap).run Tryd.prog w = .ok (.func fn first cap) w := fun _ _ _ _ => rfl
  unfold DoSem.val
  go_enter Tryd.func17, Tryd.ntmps17
  go_wp2_with fail
  refine calls_gen fun W hW => ?_
  have b0 : W.heap[w.heap.size]? = some (.cells #[.int .u64 k] 27 (0, 0)) := by rw [hW]; exact block_old (block_old (block_old (block_at (by simp))))
  have b1 : W.heap[w.heap.size + 1]? = some (.cells #[.bool false] 4 (0, 0)) := by rw [hW]; exact block_old (block_old (block_at (by simp)))
  have b2 : WalkAt d (w.heap.size + 1 + 1) t 0 0 W := by rw [hW]; exact block_old (block_at (by simp))
  have b3 : W.heap[w.heap.size + 1 + 1 + 1]? = some (.cells #[.pointer (some ⟨w.heap.size + 1 + 1, 0, none⟩)] 83 (0, 0)) := by rw [hW]; exact block_at (by simp)
  have hI1 : d.Inv ((w.heap.size + 1 + 1) :: (w.heap.size + 1) :: M) s W := by
    rw [hW]
    have := d.allocOld (.cells #[.pointer (some ⟨w.heap.size + 1 + 1, 0, none⟩)] 83) (d.alloc (.cells #[d.val, .int .i64 t, .int .i64 0, .int .i64 0] 85) (d.alloc (.cells #[.bool false] 4) (d.allocOld (.cells #[.int .u64 k] 27) hI)))
    simpa [DoSem.val] using this
  have hs1 : Same d.D w W := by rw [hW]; exact ((((Same.refl _ w).alloc _).alloc _).alloc _).alloc _
  have hD : ∀ k, w.heap.size ≤ k → k ∉ d.D := fun k hk => d.notin hI hk
  clear hW
  obtain ⟨z, hz⟩ : ∃ z, z = w.heap.size := ⟨_, rfl⟩
  rw [← hz] at b0 b1 b2 b3 hI1 hD ⊢
  have hzw : w.heap.size ≤ z := by omega
  clear hz
  have hE : ∀ y, y ∈ (z + 1 + 1) :: ([z + 1] ++ d.D) → y ∈ d.D ∨ w.heap.size ≤ y := fun y hy => by
    simp only [List.cons_append, List.nil_append, List.mem_cons] at hy
    rcases hy with rfl | rfl | hy
    · exact .inr (by omega)
    · exact .inr (by omega)
    · exact .inl hy
  have hMM : ∀ y, y ∈ M → y ∈ (z + 1 + 1) :: (z + 1) :: M := fun y hy => List.mem_cons_of_mem _ (List.mem_cons_of_mem _ hy)
  have hsub := d.sub hI
  have hup := hstop.up hs1 hE hMM hsub
  let st : StopSem d ((z + 1 + 1) :: (z + 1) :: M) (z + 1 + 1) t Bool :=
    { sf := 32, caps := #[.pointer (some ⟨z + 1 + 1 + 1, 0, none⟩), .pointer (some ⟨z, 0, none⟩), .pointer (some ⟨z + 1, 0, none⟩)], E := [z + 1]
      G := fun x w' => w'.heap[z + 1 + 1 + 1]? = some (.cells #[.pointer (some ⟨z + 1 + 1, 0, none⟩)] 83 (0, 0)) ∧ w'.heap[z]? = some (.cells #[.int .u64 k] 27 (0, 0)) ∧ w'.heap[z + 1]? = some (.cells #[.bool x] 4 (0, 0))
      stop := searchStop t k
      enter := fun _ _ => by kernel_rfl
      notm := by simp
      keep := fun x w w' h hs => by
        obtain ⟨h1, h2, h3⟩ := h
        refine ⟨(hs.block _ (lt_of_some h1) ?_).trans h1, (hs.block _ (lt_of_some h2) ?_).trans h2, (hs.block _ (lt_of_some h3) ?_).trans h3⟩ <;> (simp only [List.mem_cons, not_or]; exact ⟨by omega, hD _ (by omega)⟩)
      call := fun s w pred curr nx x K S Q hI hW hG hc _ _ _ h hok hstop => by
        obtain ⟨h1, h2, h3⟩ := hG
        refine searchStop_any d hI hW ht hc HK0.out (hD _ (by omega)) (hD _ (by omega)) (by simp) (hD _ (by omega)) (by omega) (cell_of_block h1 rfl) h2 h3 h ?_ (fun _ _ _ _ hs hI ha hS => hstop _ _ _ _ (hs.mono fun x hx => .inl (List.mem_append_right _ hx)) hI ha hS)
        intro a s' w' hs' hI' hb' hK'
        have k1 := (hs'.block _ (lt_of_some h1) (by simp only [List.mem_cons, not_or]; exact ⟨by omega, hD _ (by omega)⟩)).trans h1
        have k2 := (hs'.block _ (lt_of_some h2) (by simp only [List.mem_cons, not_or]; exact ⟨by omega, hD _ (by omega)⟩)).trans h2
        exact hok a s' w' hs' hI' ⟨k1, k2, hb'⟩ hK' }
  refine along_any d st (x := false) HBy hI1 b2 ⟨b3, b0, b1⟩ ht (hD _ (by omega)) (by simp) (d.wp_bind h) ?_ (fun _ _ _ _ hs hI ha hS => ⟨rfl, hup _ _ _ _ hs hI ha hS⟩)
  rintro ⟨ok, x1, p1, c1⟩ s2 w2 hs2 hI2 hW2 hG2 hp hc hK
  clear b0 b1 b2 b3
  obtain ⟨g1, _, g3⟩ := hG2
  have q0 : w2.cell? ⟨z + 1 + 1 + 1, 0, none⟩ = some (.pointer (some ⟨z + 1 + 1, 0, none⟩)) := cell_of_block g1 rfl
  clear g1
  have q1 : w2.cell? ⟨z + 1, 0, none⟩ = some (.bool x1) := cell_of_block g3 rfl
  have q2 : w2.frozen? ⟨z + 1, 0, none⟩ = false := frozen_of_block g3
  have HK := hid hK; have G3 := hid g3; clear hK g3 h
  have h02 : Same d.D w w2 := hs1.trans hs2 hE
  have hs2' := hid hs2; clear hs2
  cases ok with
  | false =>
    have HK1 : Hid (K (0, 0, false, false) s2) := hid (d.wp_ret (by simpa using HK.out))
    clear HK
    have q3 : (w2.setCell ⟨z + 1, 0, none⟩ (.bool false)).cell? ⟨z + 1, 0, none⟩ = some (.bool false) := cell_of_block (block_set G3.out) rfl
    go_wp2_with fail
    refine bodyPost_ret (v := .tuple #[.int .i64 0, .int .i64 0, .bool false, .bool false]) (by simp [results, Tryd.results17, go_sem, q3]) rfl ?_
    exact hok (0, 0, false, false) _ _ (h02.set (.inr (by omega))) (d.anti (d.setLocal hI2 (by simp) (hD _ (by omega))) hMM hsub) (Nat.zero_le _) (Nat.zero_le _) HK1.out
  | true =>
    have HK1 : Hid (K (p1, c1, x1 && c1 != 0, true) s2) := hid (d.wp_ret (by simpa using HK.out))
    clear HK
    have hW3 : WalkAt d (z + 1 + 1) t p1 c1 w2 := hW2 rfl
    obtain ⟨e0, e1, e2, e3⟩ := cells4 hW3
    clear hW2 hW3
    cases x1 with
    | false =>
      have q3 : (w2.setCell ⟨z + 1, 0, none⟩ (.bool false)).cell? ⟨z + 1, 0, none⟩ = some (.bool false) := cell_of_block (block_set G3.out) rfl
      go_wp2_with fail
      go_region
      go_wp2_with fail
      refine bodyPost_ret (v := .tuple #[.int .i64 p1, .int .i64 c1, .bool false, .bool true]) (by simp [results, Tryd.results17, go_sem, q3]) rfl ?_
      exact hok (p1, c1, false && c1 != 0, true) _ _ ((h02.set (.inr (by omega))).drew) (d.anti (d.drew (d.setLocal hI2 (by simp) (hD _ (by omega)))) hMM hsub) hp hc HK1.out
    | true =>
      have q3 : (w2.setCell ⟨z + 1, 0, none⟩ (.bool ((c1 : Int) != 0))).cell? ⟨z + 1, 0, none⟩ = some (.bool ((c1 : Int) != 0)) := cell_of_block (block_set G3.out) rfl
      go_wp2_with fail
      go_region
      go_wp2_with fail
      refine bodyPost_ret (v := .tuple #[.int .i64 p1, .int .i64 c1, .bool ((c1 : Int) != 0), .bool true]) (by simp [results, Tryd.results17, go_sem, q3]) rfl ?_
      have e5 : ((c1 : Int) != 0) = (c1 != 0) := by rw [Bool.eq_iff_iff]; simp
      rw [e5]
      exact hok (p1, c1, true && c1 != 0, true) _ _ ((h02.set (.inr (by omega))).drew) (d.anti (d.drew (d.setLocal hI2 (by simp) (hD _ (by omega)))) hMM hsub) hp hc HK1.out
end
end Go.Proofs.YtdfeinfaljidgaaDoor
