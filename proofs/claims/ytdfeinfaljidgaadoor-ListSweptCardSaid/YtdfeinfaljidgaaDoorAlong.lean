/- The contract of the walk's 'along', over whatever function tells it where to stop. -/
import Derived.Test.YtdfeinfaljidgaaDoorOut
import Derived.Test.YtdfeinfaljidgaaDoorScope
namespace Go.Proofs.YtdfeinfaljidgaaDoor
open Go Go.RowKit

/-- What the function that tells where to stop promises: its own state γ, the blocks E that it writes. -/
structure StopSem (d : DoSem) (M : List Nat) (m t : Nat) (γ : Type) where
  sf : FuncId
  caps : Array Value
  E : List Nat
  G : γ → World → Prop
  stop : γ → Nat → Nat → Prog (γ × Bool × Bool)
  enter : ∀ args w, (callFunc sf args).run Tryd.prog w = .ok (.enter sf args) w
  notm : m ∉ E
  keep : ∀ x w w', G x w → Same (m :: d.D) w w' → G x w'
  call : ∀ s w pred curr nx x (K : (γ × Bool × Bool) → d.σ → Prop) (S : Acc → d.σ → Prop) (Q : Ending → World → Prop), d.Inv M s w → WalkAt d m t pred curr w → G x w → curr ≤ 1048575 → curr ≠ 0 → nx < W64 → marked nx = false → d.wp (stop x curr nx) s K S →
    (∀ a s' w', Same (E ++ d.D) w w' → d.Inv M s' w' → G a.1 w' → K a s' → Q (.returned (.tuple #[.bool a.2.1, .bool a.2.2])) w') → d.Stops (E ++ d.D) M w S Q →
    Calls Tryd.prog sf (#[.int .u64 nx] ++ caps) w Q

section
variable (d : DoSem) {M : List Nat} {s : d.σ} {w : World} {m t pred curr : Nat} {Q : Ending → World → Prop} {S : Acc → d.σ → Prop} {γ : Type}

set_option maxRecDepth 100000 in
theorem along_any (st : StopSem d M m t γ) {n : Nat} {x : γ} {K : (Bool × γ × Nat × Nat) → d.σ → Prop} (HBy : BytesSpec) (hI : d.Inv M s w) (hW : WalkAt d m t pred curr w) (hG : st.G x w) (ht : t ≤ 64) (hmD : m ∉ d.D) (hmM : m ∈ M)
    (h : d.wp (walkP n t st.stop x) s K S)
    (hok : ∀ a s' w', Same (m :: (st.E ++ d.D)) w w' → d.Inv M s' w' → (a.1 = true → WalkAt d m t a.2.2.1 a.2.2.2 w') → st.G a.2.1 w' → a.2.2.1 ≤ 1048575 → a.2.2.2 ≤ 1048575 → K a s' → Q (.returned (.bool a.1)) w') (hstop : d.Stops (m :: (st.E ++ d.D)) M w S Q) :
    Calls Tryd.prog 31 #[.pointer (some ⟨m, 0, none⟩), .func (.func st.sf) #[] st.caps] w Q := by
  obtain ⟨sf, scaps, E, G, stop, enter, notm, skeep, scall⟩ := st
  simp only at hG h hok hstop ⊢
  have hD1 : ∀ y, y ∈ d.D → y ∈ m :: (E ++ d.D) := fun y hy => List.mem_cons_of_mem _ (List.mem_append_right _ hy)
  have hD2 : ∀ y, y ∈ m :: d.D → y ∈ m :: (E ++ d.D) := fun y hy => by rcases List.mem_cons.1 hy with rfl | hy; exact List.mem_cons_self ..; exact hD1 y hy
  have hD3 : ∀ y, y ∈ E ++ d.D → y ∈ m :: (E ++ d.D) := fun y hy => List.mem_cons_of_mem _ hy
  have hG' := hid hG; have hW' := hid hW; have h' := hid h; have enter' := hid enter; have skeep' := hid skeep; have scall' := hid scall
  clear hG hW h enter skeep scall
  go_enter Tryd.func31, Tryd.ntmps31
  go_wp2_with fail
  refine wp_scope_label 0 (fun n' a wr => ∃ s' p c x', Same (m :: (E ++ d.D)) w wr ∧ d.Inv M s' wr ∧ WalkAt d m t p c wr ∧ G x' wr ∧ d.wp (do let h ← load 0; alongP n t stop n' x' 0 (ref h)) s' K S ∧
    ∃ u4 u5 u6 u7 u8 u9 u10 u11 u12 u13 u14 u15 u16 u17 u18 u19 u20 u21 u22 u23 u24 u25 u26 u27 u28 u29 u30 u31 u32 u33 u34 u35 u36 u37 u38 u39 u40 u41 u42 : Value, a = { tmps := #[.pointer (some ⟨m, 0, none⟩), .func (.func sf) #[] scaps, undef, undef, u4, u5, u6, u7, u8, u9, u10, u11, u12, u13, u14, u15, u16, u17, u18, u19, u20, u21, u22, u23, u24, u25, u26, u27, u28, u29, u30, u31, u32, u33, u34, u35, u36, u37, u38, u39, u40, u41, u42], defers := [] }) n ⟨s, pred, curr, x, Same.refl _ _, hI, hW'.out, hG'.out, h'.out, _, _, _, _, _, _, _, _, _, _, _, _, _, _, _, _, _, _, _, _, _, _, _, _, _, _, _, _, _, _, _, _, _, _, _, _, _, _, _, rfl⟩ ?_
  rintro n' _ wr ⟨s1, p1, c1, x1, hs1, hI1, hW1, hG1, hK1, u4, u5, u6, u7, u8, u9, u10, u11, u12, u13, u14, u15, u16, u17, u18, u19, u20, u21, u22, u23, u24, u25, u26, u27, u28, u29, u30, u31, u32, u33, u34, u35, u36, u37, u38, u39, u40, u41, u42, rfl⟩ J hJ
  have HW1 := hid hW1; have HG1 := hid hG1; have HK1 := hid hK1; clear hW1 hG1 hK1
  have hup := hstop.at hs1
  go_wp2_with fail
  refine start_any d hI1 HW1.out ht hmD hmM (d.wp_bind HK1.out) ?_ (fun _ _ _ _ hs hI ha hS => ⟨rfl, hup _ _ _ _ (hs.mono fun x hx => .inl (hD2 x hx)) hI ha hS⟩)
  intro h s2 w2 hs2 hI2 hW2 hK2
  have HW2 := hid hW2; have HK2 := hid hK2; clear hW2 hK2 HK1
  have HG2 := hid (skeep'.out _ _ _ HG1.out hs2)
  have h02 : Same (m :: (E ++ d.D)) w w2 := hs1.then (hs2.mono fun x hx => .inl (hD2 x hx))
  go_wp2_with fail
  go_loopg [] n' (fun k wr => k ≤ n' ∧ ∃ s' p c x', Same (m :: (E ++ d.D)) w wr ∧ d.Inv M s' wr ∧ WalkAt d m t p c wr ∧ G x' wr ∧ p ≤ 1048575 ∧ c ≤ 1048575 ∧ d.wp (alongP n t stop k x' p c) s' K S)
  case atStart => exact ⟨Nat.le_refl _, s2, 0, ref h, x1, h02, hI2, HW2.out, HG2.out, by omega, by have := ref_lt h; omega, HK2.out⟩
  case round =>
    clear HW2 HG2 HK2 h02 hs2 hI2 hup hI1 HW1 HG1 hs1
    obtain ⟨hkn, s3, p3, c3, x3, h03, hI3, hW3, hG3, hp3, hc3, hK3⟩ := hrel
    cases gk with
    | zero => exact hK3.elim
    | succ k =>
      obtain ⟨e0, e1, e2, e3⟩ := cells4 hW3
      have HW3 := hid hW3; have HG3 := hid hG3; have HK3 := hid hK3; clear hW3 hG3 hK3
      have hup := hstop.at h03
      by_cases hc : c3 = 0
      · subst hc
        have HK4 : Hid (K (true, x3, p3, 0) s3) := hid (d.wp_ret (by have := HK3.out; unfold alongP at this; simpa using this))
        clear HK3
        go_wp2_with fail
        exact hok (true, x3, p3, 0) _ _ h03 hI3 (fun _ => HW3.out) HG3.out hp3 (by omega) HK4.out
      · have hcn : ((c3 : Int) != 0) = true := by simp; omega
        have HK4 := hid (d.wp_bind (show d.wp (load (field t c3 0) >>= fun nx => _) s3 K S by have := HK3.out; unfold alongP at this; rw [if_neg hc] at this; exact this))
        have Hc := hid hc; clear HK3 hc
        go_wp2_with fail
        refine wfield_any d (f := 0) hI3 HW3.out ht (by omega) (by omega) hmD HK4.out ?_ (fun _ _ _ _ hs hI ha hS => ⟨rfl, hup _ _ _ _ (hs.mono fun x hx => .inl (hD1 x hx)) hI ha hS⟩)
        intro nx s4 w4 hs4 hI4 hnx hK5
        have HN := hid hnx; have HK5 := hid hK5; clear hnx hK5 HK4
        have HW4 := hid (HW3.out.same hs4 hmD)
        have HG4 := hid (skeep'.out _ _ _ HG3.out (hs4.mono fun x hx => .inl (List.mem_cons_of_mem _ hx)))
        have h04 : Same (m :: (E ++ d.D)) w w4 := h03.then (hs4.mono fun x hx => .inl (hD1 x hx))
        have hup := hstop.at h04
        clear e0 e1 e2 e3 HW3 HG3 h03 hs4
        go_wp2_with fail
        refine (WMark_any HN.out).mono ?_; rintro _ _ ⟨rfl, rfl⟩
        by_cases hmk : marked nx = true
        · have HK6 := hid (d.wp_bind (show d.wp (outP n t p3 c3 nx >>= fun o => _) s4 K S by have := HK5.out; simp only [hmk, if_true] at this; exact this))
          clear HK5
          go_wp2_with fail
          refine out_any d HBy hI4 HW4.out ht hp3 hc3 HN.out hmD hmM HK6.out ?_ (fun _ _ _ _ hs hI ha hS => ⟨rfl, hup _ _ _ _ (hs.mono fun x hx => .inl (hD1 x hx)) hI ha hS⟩)
          rintro ⟨dn, okk⟩ s5 w5 hs5 hI5 hW5 hK7
          have HW5 := hid hW5; have HK7 := hid hK7; clear hW5 hK7 HK6
          have HG5 := hid (skeep'.out _ _ _ HG4.out hs5)
          have h05 : Same (m :: (E ++ d.D)) w w5 := h04.then (hs5.mono fun x hx => .inl (hD2 x hx))
          clear HW4 HG4 h04 hs5 hmk
          cases okk with
          | false =>
            have HK8 : Hid (K (false, x3, p3, c3) s5) := hid (d.wp_ret (by simpa using HK7.out))
            clear HK7
            go_wp2_with fail
            exact hok (false, x3, p3, c3) _ _ h05 hI5 (fun h => by cases h) HG5.out hp3 hc3 HK8.out
          | true =>
            cases dn with
            | false =>
              have HK8 := hid (show d.wp (do let h ← load 0; alongP n t stop k x3 0 (ref h)) s5 K S by simpa using HK7.out)
              clear HK7
              go_wp2_with fail
              apply wp_goto
              exact (jump_goto (l := 0) (J := J) (Q := bodyPost Tryd.prog Tryd.f31 Q)).mpr (hJ k _ _ (by omega) ⟨s5, p3, c3, x3, h05, hI5, HW5.out, HG5.out, HK8.out, _, _, _, _, _, _, _, _, _, _, _, _, _, _, _, _, _, _, _, _, _, _, _, _, _, _, _, _, _, _, _, _, _, _, _, _, _, _, _, rfl⟩)
            | true =>
              have HK8 := hid (show d.wp (alongP n t stop k x3 p3 (ref nx)) s5 K S by simpa using HK7.out)
              clear HK7
              go_wp2_with fail
              go_roundg k
              case measure => omega
              case rel => exact ⟨by omega, s5, p3, ref nx, x3, h05, hI5, HW5.out, HG5.out, hp3, by have := ref_lt nx; omega, HK8.out⟩
        · have hmk' : marked nx = false := by simpa using hmk
          have HK6 := hid (d.wp_bind (show d.wp (stop x3 c3 nx >>= fun a => _) s4 K S by have := HK5.out; simp only [hmk', Bool.false_eq_true, if_false] at this; exact this))
          clear HK5 hmk
          have he := enter'.out
          go_wp2_with fail
          clear he
          refine scall'.out _ _ _ _ _ _ _ _ _ hI4 HW4.out HG4.out hc3 Hc.out HN.out hmk' HK6.out ?_ (fun _ _ _ _ hs hI ha hS => ⟨rfl, hup _ _ _ _ (hs.mono fun x hx => .inl (hD3 x hx)) hI ha hS⟩)
          rintro ⟨x5, stops, stays⟩ s5 w5 hs5 hI5 hG5 hK7
          have HG5 := hid hG5; have HK7 := hid hK7; clear hG5 hK7 HK6 hmk'
          have HW5 := hid (HW4.out.same hs5 (by simp [notm, hmD]))
          have h05 : Same (m :: (E ++ d.D)) w w5 := h04.then (hs5.mono fun x hx => .inl (hD3 x hx))
          clear HW4 HG4 h04 hs5
          simp only at HG5
          cases stops with
          | true =>
            have HK8 : Hid (K (true, x5, p3, c3) s5) := hid (d.wp_ret (by simpa using HK7.out))
            clear HK7
            go_wp2_with fail
            exact hok (true, x5, p3, c3) _ _ h05 hI5 (fun _ => HW5.out) HG5.out hp3 hc3 HK8.out
          | false =>
            cases stays with
            | true =>
              have HK8 := hid (show d.wp (alongP n t stop k x5 p3 c3) s5 K S by simpa using HK7.out)
              clear HK7
              go_wp2_with fail
              go_roundg k
              case measure => omega
              case rel => exact ⟨by omega, s5, p3, c3, x5, h05, hI5, HW5.out, HG5.out, hp3, hc3, HK8.out⟩
            | false =>
              have HK8 := hid (show d.wp (alongP n t stop k x5 c3 (ref nx)) s5 K S by simpa using HK7.out)
              clear HK7
              go_wp2_with fail
              refine on_any d HW5.out HN.out ?_
              intro w6 hs6 hW6
              have HW6 := hid hW6; clear hW6
              have hI6 : d.Inv M s5 w6 := d.grow hI5 hs6 (fun k hk => by simp only [List.mem_singleton] at hk; subst hk; exact ⟨hmM, hmD⟩) (fun _ h => h) (fun _ h => .inl h) (fun k hk => Nat.lt_of_lt_of_le (d.lt hI5 k hk) hs6.size)
              have HG6 := hid (skeep'.out _ _ _ HG5.out (hs6.mono fun x hx => .inl (by simp only [List.mem_singleton] at hx; subst hx; exact List.mem_cons_self ..)))
              have h06 : Same (m :: (E ++ d.D)) w w6 := h05.then (hs6.mono fun x hx => .inl (by simp only [List.mem_singleton] at hx; subst hx; exact List.mem_cons_self ..))
              go_wp2_with fail
              go_roundg k
              case measure => omega
              case rel => exact ⟨by omega, s5, c3, ref nx, x5, h06, hI6, HW6.out, HG6.out, hc3, by have := ref_lt nx; omega, HK8.out⟩
end
end Go.Proofs.YtdfeinfaljidgaaDoor
