/- The contracts of package list over whoever makes their accesses. -/
import Derived.Test.YtdfeinfaljidgaaDoorAlong
namespace Go.Proofs.YtdfeinfaljidgaaDoor
open Go Go.RowKit

section
variable (d : DoSem) {M : List Nat} {s : d.σ} {w : World} {t : Nat} {Q : Ending → World → Prop} {S : Acc → d.σ → Prop}

theorem list_mark_any {r nx : Nat} {K : Bool → d.σ → Prop} (hI : d.Inv M s w) (ht : t ≤ 64) (hr : r ≤ 1048576) (hn : nx < W64) (hm : marked nx = false)
    (h : d.wp (cas (next t r) nx (nx + 1)) s K S) (hok : ∀ x s' w', Same d.D w w' → d.Inv M s' w' → K x s' → Q (.returned (.bool x)) w') (hstop : d.Stops d.D M w S Q) :
    Calls Tryd.prog 40 #[d.val, .int .i64 t, .int .i64 r, .int .u64 nx] w Q := by
  have hm2 : nx % 2 = 0 := by unfold marked at hm; simp at hm; omega
  have hor := bits_or1 hn hm2
  have hn1 : nx + 1 < W64 := by unfold W64 at hn ⊢; omega
  have HN := hid hn; have HO := hid hor; have HN1 := hid hn1; clear hn hor hm2 hn1 hm
  go_enter Tryd.func40, Tryd.ntmps40
  go_wp2_with fail
  refine (CNext_any ht hr).mono ?_; rintro _ _ ⟨rfl, rfl⟩
  go_wp2_with fail
  rw [HO.out]
  refine cas_any d hI HN.out HN1.out h ?_ (fun _ _ _ _ hs hI ha hS => ⟨rfl, hstop _ _ _ _ hs hI ha hS⟩)
  intro b s1 w1 hs1 hI1 hK
  have HK := hid hK; clear hK h
  go_wp2_with fail
  exact hok _ _ _ hs1 hI1 HK.out

theorem list_Mark_any {r : Nat} {K : Bool → d.σ → Prop} (hI : d.Inv M s w) (ht : t ≤ 64) (hr : r ≤ 1048576)
    (h : d.wp (markP t r) s K S) (hok : ∀ x s' w', Same d.D w w' → d.Inv M s' w' → K x s' → Q (.returned (.bool x)) w') (hstop : d.Stops d.D M w S Q) :
    Calls Tryd.prog 19 #[d.val, .int .i64 t, .int .i64 r] w Q := by
  go_enter Tryd.func19, Tryd.ntmps19
  go_wp2_with fail
  refine (CNext_any ht hr).mono ?_; rintro _ _ ⟨rfl, rfl⟩
  go_wp2_with fail
  refine load_any d hI (d.wp_bind h) ?_ (fun _ _ _ _ hs hI ha hS => ⟨rfl, hstop _ _ _ _ hs hI ha hS⟩)
  intro nx s1 w1 hs1 hI1 hn hK
  have HN := hid hn; have HK := hid hK; clear hn hK h
  have hup := hstop.at hs1
  go_wp2_with fail
  refine (WMark_any HN.out).mono ?_; rintro _ _ ⟨rfl, rfl⟩
  by_cases hm : marked nx = true
  · have HK1 : Hid (K false s1) := hid (d.wp_ret (by have := HK.out; simp only [hm, if_true] at this; exact this))
    clear HK
    go_wp2_with fail
    exact hok _ _ _ hs1 hI1 HK1.out
  · have hm' : marked nx = false := by simpa using hm
    have HK1 := hid (show d.wp (cas (next t r) nx (nx + 1)) s1 K S by have := HK.out; simp only [hm', Bool.false_eq_true, if_false] at this; exact this)
    clear HK hm
    go_wp2_with fail
    refine list_mark_any d hI1 ht hr HN.out hm' HK1.out ?_ (fun _ _ _ _ hs hI ha hS => ⟨rfl, hup _ _ _ _ hs hI ha hS⟩)
    intro b s2 w2 hs2 hI2 hK
    have HK := hid hK; clear hK HK1
    go_wp2_with fail
    exact hok _ _ _ (hs1.then hs2) hI2 HK.out

theorem list_Link_any {p c r : Nat} {K : Bool → d.σ → Prop} (hI : d.Inv M s w) (ht : t ≤ 64) (hp : p ≤ 1048576) (hc : c ≤ 1048576) (hr : r ≤ 1048576)
    (h : d.wp (linkP t p c r) s K S) (hok : ∀ x s' w', Same d.D w w' → d.Inv M s' w' → K x s' → Q (.returned (.bool x)) w') (hstop : d.Stops d.D M w S Q) :
    Calls Tryd.prog 18 #[d.val, .int .i64 t, .int .i64 p, .int .i64 c, .int .i64 r] w Q := by
  go_enter Tryd.func18, Tryd.ntmps18
  go_wp2_with fail
  refine (Link_any (by omega)).mono ?_; rintro _ _ ⟨rfl, rfl⟩
  go_wp2_with fail
  refine (CNext_any ht hr).mono ?_; rintro _ _ ⟨rfl, rfl⟩
  go_wp2_with fail
  refine store_any d hI (link_lt hc) (d.wp_bind h) ?_ (fun _ _ _ _ hs hI ha hS => ⟨rfl, hstop _ _ _ _ hs hI ha hS⟩)
  intro s1 w1 hs1 hI1 hK
  have HK := hid hK; clear hK h
  have hup := hstop.at hs1
  go_wp2_with fail
  refine (CNext_any ht hp).mono ?_; rintro _ _ ⟨rfl, rfl⟩
  go_wp2_with fail
  refine (Link_any (by omega)).mono ?_; rintro _ _ ⟨rfl, rfl⟩
  go_wp2_with fail
  refine cas_any d hI1 (link_lt hc) (link_lt hr) HK.out ?_ (fun _ _ _ _ hs hI ha hS => ⟨rfl, hup _ _ _ _ hs hI ha hS⟩)
  intro b s2 w2 hs2 hI2 hK
  have HK := hid hK; clear hK
  go_wp2_with fail
  exact hok _ _ _ (hs1.then hs2) hI2 HK.out
end
end Go.Proofs.YtdfeinfaljidgaaDoor
