/- The contract of list.Seek over whoever makes its accesses. -/
import Derived.Test.YtdfeinfaljidgaaDoorWalk
import Derived.Deep.LoopGhost
namespace Go.Proofs.YtdfeinfaljidgaaDoor
open Go Go.RowKit

section
variable (d : DoSem) {M : List Nat} {s : d.σ} {w : World} {t : Nat} {Q : Ending → World → Prop} {S : Acc → d.σ → Prop}

theorem list_Seek_any {n f k : Nat} {K : (Nat × Bool) → d.σ → Prop} (hI : d.Inv M s w) (ht : t ≤ 64) (hf : f ≤ 1048576) (hk : k < W64)
    (h : d.wp (seekP n t f k) s K S) (hok : ∀ a s' w', Same d.D w w' → d.Inv M s' w' → a.1 ≤ 1048575 → K a s' → Q (.returned (.tuple #[.int .i64 (a.1 : Nat), .bool a.2])) w') (hstop : d.Stops d.D M w S Q) :
    Calls Tryd.prog 21 #[d.val, .int .i64 t, .int .i64 f, .int .u64 k] w Q := by
  have HK0 := hid hk; clear hk
  go_enter Tryd.func21, Tryd.ntmps21
  go_wp2_with fail
  refine (CNext_any ht hf).mono ?_; rintro _ _ ⟨rfl, rfl⟩
  go_wp2_with fail
  refine load_any d hI (d.wp_bind h) ?_ (fun _ _ _ _ hs hI ha hS => ⟨rfl, hstop _ _ _ _ hs hI ha hS⟩)
  intro hd s1 w1 hs1 hI1 hn hK
  have HN := hid hn; have HK := hid hK; clear hn hK h
  go_wp2_with fail
  refine (Ref_any HN.out).mono ?_; rintro _ _ ⟨rfl, rfl⟩
  unfold DoSem.val
  go_wp2_with fail
  refine wp_gen fun W hW => ?_
  have b0 : WalkAt d w1.heap.size t 0 (ref hd) W := by rw [hW]; exact block_at rfl
  have hI2 : d.Inv (w1.heap.size :: M) s1 W := by rw [hW]; exact d.alloc _ hI1
  have hmD : w1.heap.size ∉ d.D := d.notin hI1 (Nat.le_refl _)
  have hs2 : Same d.D w W := by rw [hW]; exact hs1.alloc _
  have hmw : w.heap.size ≤ w1.heap.size := hs1.size
  have hlt1 : ∀ k, k ∈ M → k ∈ w1.heap.size :: M := fun k hk => List.mem_cons_of_mem _ hk
  have hE : ∀ k, k ∈ w1.heap.size :: d.D → k ∈ d.D ∨ w.heap.size ≤ k := fun k hk => by rcases List.mem_cons.1 hk with rfl | hk; exact .inr hmw; exact .inl hk
  clear hW
  obtain ⟨m, hm⟩ : ∃ m, m = w1.heap.size := ⟨_, rfl⟩
  rw [← hm] at b0 hI2 hmD hmw hlt1 hE ⊢
  have Hb0 := hid b0; have Hlt1 := hid hlt1; have HE := hid hE; clear b0 hlt1 hE hm
  have Hsub := hid (d.sub hI)
  go_loopg [] n (fun g wr => ∃ s' p c, Same d.D w wr ∧ d.Inv (m :: M) s' wr ∧ WalkAt d m t p c wr ∧ c ≤ 1048575 ∧ d.wp (seekLoop t k g c) s' K S)
  case atStart => exact ⟨s1, 0, ref hd, hs2, hI2, Hb0.out, by have := ref_lt hd; omega, HK.out⟩
  case round =>
    clear Hb0 hs2 hI2 HK hs1 hI1
    obtain ⟨s3, p3, c3, h03, hI3, hW3, hc3, hK3⟩ := hrel
    cases gk with
    | zero => exact hK3.elim
    | succ g =>
      obtain ⟨e0, e1, e2, e3⟩ := cells4 hW3
      have HW3 := hid hW3; have HK3 := hid hK3; clear hW3 hK3
      have hup : d.Stops d.D (m :: M) wr S Q := hstop.up h03 (fun k hk => .inl hk) Hlt1.out Hsub.out
      by_cases hc : c3 = 0
      · subst hc
        have HK4 : Hid (K (0, false) s3) := hid (d.wp_ret (by have := HK3.out; unfold seekLoop at this; simpa using this))
        clear HK3
        go_wp2_with fail
        exact hok (0, false) _ _ h03 (d.anti hI3 Hlt1.out Hsub.out) (by omega) HK4.out
      · have hcn : ((c3 : Int) != 0) = true := by simp; omega
        have HK4 := hid (d.wp_bind (show d.wp (load (field t c3 1) >>= fun nx => _) s3 K S by have := HK3.out; unfold seekLoop at this; rw [if_neg hc] at this; exact this))
        have Hc := hid hc; clear HK3 hc
        go_wp2_with fail
        refine wfield_any d (f := 1) hI3 HW3.out ht (by omega) (by omega) hmD HK4.out ?_ (fun _ _ _ _ hs hI ha hS => ⟨rfl, hup _ _ _ _ hs hI ha hS⟩)
        intro x s4 w4 hs4 hI4 hnx hK5
        have HN := hid hnx; have HK5 := hid hK5; clear hnx hK5 HK4
        have HW4 := hid (HW3.out.same hs4 hmD)
        have h04 := h03.then hs4
        clear e0 e1 e2 e3
        obtain ⟨e0, e1, e2, e3⟩ := cells4 HW4.out
        have hup := hup.at hs4
        by_cases hx : k ≤ x
        · have HK6 : Hid (K (c3, x == k) s4) := hid (d.wp_ret (by have := HK5.out; simp only [hx, if_true] at this; exact this))
          have hxd : decide ((k : Int) ≤ (x : Int)) = true := by simp; omega
          have Hx := hid hx; clear HK5 hx
          go_wp2_with fail
          have hbe : (((x : Nat) : Int) == (k : Int)) = (x == k) := by rw [Bool.eq_iff_iff]; simp; omega
          have hq := hok (c3, x == k) _ _ h04 (d.anti hI4 Hlt1.out Hsub.out) hc3 HK6.out
          rw [← hbe] at hq
          exact hq
        · have HK6 := hid (d.wp_bind (show d.wp (load (field t c3 0) >>= fun nx => _) s4 K S by have := HK5.out; simp only [hx, if_false] at this; exact this))
          have hxd : decide ((k : Int) ≤ (x : Int)) = false := by simp; omega
          have Hx := hid hx; clear HK5 hx
          go_wp2_with fail
          refine wfield_any d (f := 0) hI4 HW4.out ht (by omega) (by omega) hmD HK6.out ?_ (fun _ _ _ _ hs hI ha hS => ⟨rfl, hup _ _ _ _ hs hI ha hS⟩)
          intro nx s5 w5 hs5 hI5 hnx hK7
          have HN5 := hid hnx; have HK7 := hid hK7; clear hnx hK7 HK6
          have HW5 := hid (HW4.out.same hs5 hmD)
          have h05 := h04.then hs5
          clear e0 e1 e2 e3
          go_wp2_with fail
          refine on_any d HW5.out HN5.out ?_
          intro w6 hs6 hW6
          have HW6 := hid hW6; clear hW6
          have hI6 : d.Inv (m :: M) s5 w6 := d.grow hI5 hs6 (fun k hk => by simp only [List.mem_singleton] at hk; subst hk; exact ⟨List.mem_cons_self .., hmD⟩) (fun _ h => h) (fun _ h => .inl h) (fun k hk => Nat.lt_of_lt_of_le (d.lt hI5 k hk) hs6.size)
          have h06 : Same d.D w w6 := h05.trans hs6 (fun x hx => by simp only [List.mem_singleton] at hx; subst hx; exact .inr hmw)
          go_wp2_with fail
          go_roundg g
          case measure => omega
          case rel => exact ⟨s5, c3, ref nx, h06, hI6, HW6.out, by have := ref_lt nx; omega, HK7.out⟩
end
end Go.Proofs.YtdfeinfaljidgaaDoor
