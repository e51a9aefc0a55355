/- The contract of list.Sweep over whoever makes its accesses. -/
import Derived.Test.YtdfeinfaljidgaaDoorAlong
import Derived.Test.YtdfeinfaljidgaaDoorList
namespace Go.Proofs.YtdfeinfaljidgaaDoor
open Go Go.RowKit

section
variable (d : DoSem) {M : List Nat} {s : d.σ} {w : World} {t : Nat} {Q : Ending → World → Prop} {S : Acc → d.σ → Prop}

/-- Sweep's closure. -/
theorem sweepStop_any {m bw bs bd bt n st nx pred curr : Nat} {K : (Unit × Bool × Bool) → d.σ → Prop} (hI : d.Inv M s w) (hW : WalkAt d m t pred curr w) (ht : t ≤ 64) (hc : curr ≤ 1048575) (hc0 : curr ≠ 0) (hnx : nx < W64) (hmk : marked nx = false) (hst : st < W64) (hmD : m ∉ d.D)
    (hcells : ∀ w', Same d.D w w' → w'.cell? ⟨bw, 0, none⟩ = some (.pointer (some ⟨m, 0, none⟩)) ∧ w'.cell? ⟨bs, 0, none⟩ = some (.int .u64 st) ∧ w'.cell? ⟨bd, 0, none⟩ = some d.val ∧ w'.cell? ⟨bt, 0, none⟩ = some (.int .i64 t))
    (h : d.wp (sweepStop n t st () curr nx) s K S)
    (hok : ∀ a s' w', Same d.D w w' → d.Inv M s' w' → K a s' → Q (.returned (.tuple #[.bool a.2.1, .bool a.2.2])) w') (hstop : d.Stops d.D M w S Q) :
    Calls Tryd.prog 41 #[.int .u64 nx, .pointer (some ⟨bw, 0, none⟩), .pointer (some ⟨bs, 0, none⟩), .pointer (some ⟨bd, 0, none⟩), .pointer (some ⟨bt, 0, none⟩)] w Q := by
  have HW := hid hW; have H := hid h; have HC := hid hcells; have HN := hid hnx; have HST := hid hst; have HC0 := hid hc0; have HM := hid hmk; clear hW h hcells hnx hst hc0 hmk
  obtain ⟨q0, q1, q2, q3⟩ := HC.out w (Same.refl _ _)
  go_enter Tryd.func41, Tryd.ntmps41
  go_wp2_with fail
  refine wfield_any d (f := 1) hI HW.out ht (by omega) (by omega) hmD (d.wp_bind H.out) ?_ (fun _ _ _ _ hs hI ha hS => ⟨rfl, hstop _ _ _ _ hs hI ha hS⟩)
  intro k s1 w1 hs1 hI1 hk hK
  have HK0 := hid hk; have HK := hid hK; clear hk hK H q0 q1 q2 q3
  have hup := hstop.at hs1
  have HW1 := hid (HW.out.same hs1 hmD)
  obtain ⟨q0, q1, q2, q3⟩ := HC.out w1 hs1
  go_wp2_with fail
  refine (Split_any HK0.out).mono ?_; rintro _ _ ⟨rfl, rfl⟩
  by_cases hv : k % 2147483648 = 0
  · have HK1 : Hid (K ((), false, false) s1) := hid (d.wp_ret (by have := HK.out; rw [if_pos hv] at this; exact this))
    have hlt : decide ((k : Int) % 2147483648 - 1 < 0) = true := by rw [decide_eq_true_eq]; omega
    have hv' := hid hv; clear hv HK
    go_wp2_with fail
    exact hok ((), false, false) _ _ hs1 hI1 HK1.out
  · have HK1 := hid (d.wp_bind (show d.wp (load (field t curr 4) >>= fun su => _) s1 K S by have := HK.out; rw [if_neg hv] at this; exact this))
    have hlt : decide ((k : Int) % 2147483648 - 1 < 0) = false := by rw [decide_eq_false_iff_not]; omega
    have hv' := hid hv; clear hv HK
    go_wp2_with fail
    refine wfield_any d (f := 4) hI1 HW1.out ht (by omega) (by omega) hmD HK1.out ?_ (fun _ _ _ _ hs hI ha hS => ⟨rfl, hup _ _ _ _ hs hI ha hS⟩)
    intro su s2 w2 hs2 hI2 hsu hK
    have HK2 := hid (d.wp_bind hK); clear hK HK1 q0 q1 q2 q3 hsu hlt hv'
    have h02 := hs1.then hs2
    have hup := hstop.at h02
    have HW2 := hid (HW.out.same h02 hmD)
    obtain ⟨q0, q1, q2, q3⟩ := HC.out w2 h02
    go_wp2_with fail
    refine wfield_any d (f := 5) hI2 HW2.out ht (by omega) (by omega) hmD HK2.out ?_ (fun _ _ _ _ hs hI ha hS => ⟨rfl, hup _ _ _ _ hs hI ha hS⟩)
    intro sv s3 w3 hs3 hI3 hsv hK
    have HK3 := hid hK; clear hK HK2 q0 q1 q2 q3 hsv hs2
    have h03 := h02.then hs3
    have hup := hstop.at h03
    have HW3 := hid (HW.out.same h03 hmD)
    obtain ⟨q0, q1, q2, q3⟩ := HC.out w3 h03
    clear hs1 h02 hs3
    have hS1 : ∀ w', Same d.D w3.drew w' → w'.cell? ⟨bd, 0, none⟩ = some d.val ∧ w'.cell? ⟨bt, 0, none⟩ = some (.int .i64 t) ∧ w'.cell? ⟨bw, 0, none⟩ = some (.pointer (some ⟨m, 0, none⟩)) ∧ w'.cell? ⟨m, 3, none⟩ = some (.int .i64 curr) := fun w' hs => by
      have h0' := h03.then (((Same.refl _ w3).drew).then hs)
      obtain ⟨a, _, b, c⟩ := HC.out w' h0'
      exact ⟨b, c, a, (cells4 (HW.out.same h0' hmD)).2.2.2⟩
    have HS1 := hid hS1; clear hS1
    by_cases hsu : su = st
    · have g1 : ((su : Int) != (st : Int)) = false := by simp [hsu]
      have HK4 := hid (d.wp_bind (show d.wp (cas (next t curr) nx (nx + 1) >>= fun ok => _) s3 K S by have := HK3.out; rw [if_neg (by simp [hsu])] at this; exact this))
      have HSU := hid hsu; clear hsu
      clear HK3
      go_wp2_with fail
      go_region_held2 (fun w' => w'.cell? ⟨bd, 0, none⟩ = some d.val ∧ w'.cell? ⟨bt, 0, none⟩ = some (.int .i64 t) ∧ w'.cell? ⟨bw, 0, none⟩ = some (.pointer (some ⟨m, 0, none⟩)) ∧ w'.cell? ⟨m, 3, none⟩ = some (.int .i64 curr))
        (first | exact HS1.out _ (Same.refl _ _) | exact HS1.out _ hs4)
        ((go_at_call 40; go_must (refine list_mark_any d (d.drew hI3) ht (by omega) HN.out HM.out HK4.out ?_ (fun _ _ _ _ hs hI ha hS => ⟨rfl, hup.drew _ _ _ _ hs hI ha hS⟩)); intro b s4 w4 hs4 hI4 hK; have HK5 := hid hK; clear hK))
      have h04 := h03.then (((Same.refl _ w3).drew).then hs4)
      have hup := hstop.at h04
      cases b with
      | false =>
        have HK6 : Hid (K ((), false, true) s4) := hid (d.wp_ret (by simpa using HK5.out))
        clear HK5
        go_wp2_with fail
        exact hok ((), false, true) _ _ h04 hI4 HK6.out
      | true =>
        have HK6 := hid (d.wp_bind (show d.wp (do setP n t curr 2; pure ((), false, true)) s4 K S by simpa using HK5.out))
        clear HK5
        have hS2 : ∀ w', Same d.D w4.drew w' → w'.cell? ⟨bd, 0, none⟩ = some d.val ∧ w'.cell? ⟨bt, 0, none⟩ = some (.int .i64 t) ∧ w'.cell? ⟨bw, 0, none⟩ = some (.pointer (some ⟨m, 0, none⟩)) ∧ w'.cell? ⟨m, 3, none⟩ = some (.int .i64 curr) := fun w' hs => by
          have h0' := h04.then (((Same.refl _ w4).drew).then hs)
          obtain ⟨a, _, b, c⟩ := HC.out w' h0'
          exact ⟨b, c, a, (cells4 (HW.out.same h0' hmD)).2.2.2⟩
        have HS2 := hid hS2; clear hS2
        go_wp2_with fail
        go_region_held2 (fun w' => w'.cell? ⟨bd, 0, none⟩ = some d.val ∧ w'.cell? ⟨bt, 0, none⟩ = some (.int .i64 t) ∧ w'.cell? ⟨bw, 0, none⟩ = some (.pointer (some ⟨m, 0, none⟩)) ∧ w'.cell? ⟨m, 3, none⟩ = some (.int .i64 curr))
          (first | exact HS2.out _ (Same.refl _ _) | exact HS2.out _ hs5)
          ((go_at_call 43; go_must (refine Set_any d (d.drew hI4) ht (by omega) (.inr rfl) HK6.out ?_ (fun _ _ _ _ hs hI ha hS => ⟨rfl, hup.drew _ _ _ _ hs hI ha hS⟩)); intro s5 w5 hs5 hI5 hK; have HK7 := hid (d.wp_ret hK); clear hK))
        go_wp2_with fail
        exact hok ((), false, true) _ _ (h04.then (((Same.refl _ w4).drew).then hs5)) hI5 HK7.out
    · have g1 : ((su : Int) != (st : Int)) = true := by simp; omega
      have HSU := hid hsu
      by_cases hsv : sv = st
      · have g2 : ((sv : Int) != (st : Int)) = false := by simp [hsv]
        have HK4 := hid (d.wp_bind (show d.wp (cas (next t curr) nx (nx + 1) >>= fun ok => _) s3 K S by have := HK3.out; rw [if_neg (by simp [hsv])] at this; exact this))
        have HSV := hid hsv; clear hsv hsu
        clear HK3
        go_wp2_with fail
        go_region_held2 (fun w' => w'.cell? ⟨bd, 0, none⟩ = some d.val ∧ w'.cell? ⟨bt, 0, none⟩ = some (.int .i64 t) ∧ w'.cell? ⟨bw, 0, none⟩ = some (.pointer (some ⟨m, 0, none⟩)) ∧ w'.cell? ⟨m, 3, none⟩ = some (.int .i64 curr))
          (first | exact HS1.out _ (Same.refl _ _) | exact HS1.out _ hs4)
          ((go_at_call 40; go_must (refine list_mark_any d (d.drew hI3) ht (by omega) HN.out HM.out HK4.out ?_ (fun _ _ _ _ hs hI ha hS => ⟨rfl, hup.drew _ _ _ _ hs hI ha hS⟩)); intro b s4 w4 hs4 hI4 hK; have HK5 := hid hK; clear hK))
        have h04 := h03.then (((Same.refl _ w3).drew).then hs4)
        have hup := hstop.at h04
        cases b with
        | false =>
          have HK6 : Hid (K ((), false, true) s4) := hid (d.wp_ret (by simpa using HK5.out))
          clear HK5
          go_wp2_with fail
          exact hok ((), false, true) _ _ h04 hI4 HK6.out
        | true =>
          have HK6 := hid (d.wp_bind (show d.wp (do setP n t curr 2; pure ((), false, true)) s4 K S by simpa using HK5.out))
          clear HK5
          have hS2 : ∀ w', Same d.D w4.drew w' → w'.cell? ⟨bd, 0, none⟩ = some d.val ∧ w'.cell? ⟨bt, 0, none⟩ = some (.int .i64 t) ∧ w'.cell? ⟨bw, 0, none⟩ = some (.pointer (some ⟨m, 0, none⟩)) ∧ w'.cell? ⟨m, 3, none⟩ = some (.int .i64 curr) := fun w' hs => by
            have h0' := h04.then (((Same.refl _ w4).drew).then hs)
            obtain ⟨a, _, b, c⟩ := HC.out w' h0'
            exact ⟨b, c, a, (cells4 (HW.out.same h0' hmD)).2.2.2⟩
          have HS2 := hid hS2; clear hS2
          go_wp2_with fail
          go_region_held2 (fun w' => w'.cell? ⟨bd, 0, none⟩ = some d.val ∧ w'.cell? ⟨bt, 0, none⟩ = some (.int .i64 t) ∧ w'.cell? ⟨bw, 0, none⟩ = some (.pointer (some ⟨m, 0, none⟩)) ∧ w'.cell? ⟨m, 3, none⟩ = some (.int .i64 curr))
            (first | exact HS2.out _ (Same.refl _ _) | exact HS2.out _ hs5)
            ((go_at_call 43; go_must (refine Set_any d (d.drew hI4) ht (by omega) (.inr rfl) HK6.out ?_ (fun _ _ _ _ hs hI ha hS => ⟨rfl, hup.drew _ _ _ _ hs hI ha hS⟩)); intro s5 w5 hs5 hI5 hK; have HK7 := hid (d.wp_ret hK); clear hK))
          go_wp2_with fail
          exact hok ((), false, true) _ _ (h04.then (((Same.refl _ w4).drew).then hs5)) hI5 HK7.out
      · have g2 : ((sv : Int) != (st : Int)) = true := by simp; omega
        have HK4 : Hid (K ((), false, false) s3) := hid (d.wp_ret (by have := HK3.out; rw [if_pos ⟨hsu, hsv⟩] at this; exact this))
        have HSV := hid hsv; clear hsv hsu HK3
        go_wp2_with fail
        exact hok ((), false, false) _ _ h03 hI3 HK4.out

theorem list_Sweep_any {n st0 : Nat} {K : Bool → d.σ → Prop} (HBy : BytesSpec) (hI : d.Inv M s w) (ht : t ≤ 64) (hst : st0 < W64)
    (h : d.wp (sweepP n t st0) s K S) (hok : ∀ a s' w', Same d.D w w' → d.Inv M s' w' → K a s' → Q (.returned (.bool a)) w') (hstop : d.Stops d.D M w S Q) :
    Calls Tryd.prog 20 #[d.val, .int .i64 t, .int .u64 st0] w Q := by
  have HST := hid hst; clear hst
  have hmf : ∀ (fn : Fn) (first cap : Array Value) (w : World), (Instr.makeFunc fn first cap).run Tryd.prog w = .ok (.func fn first cap) w := fun _ _ _ _ => rfl
  unfold DoSem.val
  go_enter Tryd.func20, Tryd.ntmps20
  go_wp2_with fail
  refine calls_gen fun W hW => ?_
  have b0 : W.heap[w.heap.size]? = some (.cells #[d.val] 55 (0, 0)) := by rw [hW]; exact block_old (block_old (block_old (block_old (block_at (by simp)))))
  have b1 : W.heap[w.heap.size + 1]? = some (.cells #[.int .i64 t] 3 (0, 0)) := by rw [hW]; exact block_old (block_old (block_old (block_at (by simp))))
  have b2 : W.heap[w.heap.size + 1 + 1]? = some (.cells #[.int .u64 st0] 27 (0, 0)) := by rw [hW]; exact block_old (block_old (block_at (by simp)))
  have b3 : WalkAt d (w.heap.size + 1 + 1 + 1) t 0 0 W := by rw [hW]; exact block_old (block_at (by simp))
  have b4 : W.heap[w.heap.size + 1 + 1 + 1 + 1]? = some (.cells #[.pointer (some ⟨w.heap.size + 1 + 1 + 1, 0, none⟩)] 83 (0, 0)) := by rw [hW]; exact block_at (by simp)
  have hI1 : d.Inv ((w.heap.size + 1 + 1 + 1) :: M) s W := by
    rw [hW]
    have := d.allocOld (.cells #[.pointer (some ⟨w.heap.size + 1 + 1 + 1, 0, none⟩)] 83) (d.alloc (.cells #[d.val, .int .i64 t, .int .i64 0, .int .i64 0] 85) (d.allocOld (.cells #[.int .u64 st0] 27) (d.allocOld (.cells #[.int .i64 t] 3) (d.allocOld (.cells #[d.val] 55) hI))))
    simpa [DoSem.val] using this
  have hs1 : Same d.D w W := by rw [hW]; exact (((((Same.refl _ w).alloc _).alloc _).alloc _).alloc _).alloc _
  have hD : ∀ k, w.heap.size ≤ k → k ∉ d.D := fun k hk => d.notin hI hk
  clear hW
  obtain ⟨z, hz⟩ : ∃ z, z = w.heap.size := ⟨_, rfl⟩
  rw [← hz] at b0 b1 b2 b3 b4 hI1 hD ⊢
  have hzw : w.heap.size ≤ z := by omega
  clear hz
  have hE : ∀ y, y ∈ (z + 1 + 1 + 1) :: ([] ++ d.D) → y ∈ d.D ∨ w.heap.size ≤ y := fun y hy => by
    simp only [List.nil_append, List.mem_cons] at hy
    rcases hy with rfl | hy
    · exact .inr (by omega)
    · exact .inl hy
  have hMM : ∀ y, y ∈ M → y ∈ (z + 1 + 1 + 1) :: M := fun y hy => List.mem_cons_of_mem _ hy
  have hsub := d.sub hI
  have hup := hstop.up hs1 hE hMM hsub
  let st : StopSem d ((z + 1 + 1 + 1) :: M) (z + 1 + 1 + 1) t Unit :=
    { sf := 41, caps := #[.pointer (some ⟨z + 1 + 1 + 1 + 1, 0, none⟩), .pointer (some ⟨z + 1 + 1, 0, none⟩), .pointer (some ⟨z, 0, none⟩), .pointer (some ⟨z + 1, 0, none⟩)], E := []
      G := fun _ w' => w'.heap[z + 1 + 1 + 1 + 1]? = some (.cells #[.pointer (some ⟨z + 1 + 1 + 1, 0, none⟩)] 83 (0, 0)) ∧ w'.heap[z + 1 + 1]? = some (.cells #[.int .u64 st0] 27 (0, 0)) ∧ w'.heap[z]? = some (.cells #[d.val] 55 (0, 0)) ∧ w'.heap[z + 1]? = some (.cells #[.int .i64 t] 3 (0, 0))
      stop := sweepStop n t st0
      enter := fun _ _ => by kernel_rfl
      notm := by simp
      keep := fun _ w w' h hs => by
        obtain ⟨h1, h2, h3, h4⟩ := h
        refine ⟨(hs.block _ (lt_of_some h1) ?_).trans h1, (hs.block _ (lt_of_some h2) ?_).trans h2, (hs.block _ (lt_of_some h3) ?_).trans h3, (hs.block _ (lt_of_some h4) ?_).trans h4⟩ <;> (simp only [List.mem_cons, not_or]; exact ⟨by omega, hD _ (by omega)⟩)
      call := fun s w pred curr nx x K S Q hI hW hG hc hc0 hnx hmk h hok hstop => by
        obtain ⟨h1, h2, h3, h4⟩ := hG
        have hk : ∀ w', Same d.D w w' → w'.heap[z + 1 + 1 + 1 + 1]? = some (.cells #[.pointer (some ⟨z + 1 + 1 + 1, 0, none⟩)] 83 (0, 0)) ∧ w'.heap[z + 1 + 1]? = some (.cells #[.int .u64 st0] 27 (0, 0)) ∧ w'.heap[z]? = some (.cells #[d.val] 55 (0, 0)) ∧ w'.heap[z + 1]? = some (.cells #[.int .i64 t] 3 (0, 0)) := fun w' hs =>
          ⟨(hs.block _ (lt_of_some h1) (hD _ (by omega))).trans h1, (hs.block _ (lt_of_some h2) (hD _ (by omega))).trans h2, (hs.block _ (lt_of_some h3) (hD _ (by omega))).trans h3, (hs.block _ (lt_of_some h4) (hD _ (by omega))).trans h4⟩
        refine sweepStop_any d hI hW ht hc hc0 hnx hmk HST.out (hD _ (by omega)) (fun w' hs => ⟨cell_of_block (hk w' hs).1 rfl, cell_of_block (hk w' hs).2.1 rfl, cell_of_block (hk w' hs).2.2.1 rfl, cell_of_block (hk w' hs).2.2.2 rfl⟩) h ?_ (fun _ _ _ _ hs hI ha hS => hstop _ _ _ _ (hs.mono fun x hx => .inl hx) hI ha hS)
        intro a s' w' hs' hI' hK'
        exact hok a s' w' (hs'.mono fun x hx => .inl hx) hI' (hk w' hs') hK' }
  refine along_any d st (x := ()) HBy hI1 b3 ⟨b4, b2, b0, b1⟩ ht (hD _ (by omega)) (by simp) (d.wp_bind h) ?_ (fun _ _ _ _ hs hI ha hS => ⟨rfl, hup _ _ _ _ hs hI ha hS⟩)
  rintro ⟨ok, x1, p1, c1⟩ s2 w2 hs2 hI2 hW2 hG2 hp hc hK
  have HK := hid (d.wp_ret hK); clear hK h b0 b1 b2 b3 b4
  have h02 : Same d.D w w2 := hs1.trans hs2 hE
  have hs2' := hid hs2; have hG2' := hid hG2; have hW2' := hid hW2; clear hs2 hG2 hW2
  go_wp2_with fail
  exact hok _ _ _ h02 (d.anti hI2 hMM hsub) HK.out
end
end Go.Proofs.YtdfeinfaljidgaaDoor
