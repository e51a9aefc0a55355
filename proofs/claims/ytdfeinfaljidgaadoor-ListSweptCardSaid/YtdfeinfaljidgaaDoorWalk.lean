/- The contracts of list's walk along the list: start, on, field. -/
import Derived.Test.YtdfeinfaljidgaaDoorDo
import Derived.Test.YtdfeinfaljidgaaDoorPure
import Derived.Deep.RegionHeld2
namespace Go.Proofs.YtdfeinfaljidgaaDoor
open Go Go.RowKit

/-- Block m holds a walk: who makes its accesses, for how many threads, where it is. -/
def WalkAt (d : DoSem) (m t pred curr : Nat) (w : World) : Prop := w.heap[m]? = some (.cells #[d.val, .int .i64 t, .int .i64 pred, .int .i64 curr] 85 (0, 0))

theorem WalkAt.same {d : DoSem} {m t pred curr : Nat} {w w' : World} {E : List Nat} (h : WalkAt d m t pred curr w) (hs : Same E w w') (hm : m ∉ E) : WalkAt d m t pred curr w' :=
  (hs.block m (lt_of_some h) hm).trans h

section
variable (d : DoSem) {M : List Nat} {s : d.σ} {w : World} {m t pred curr : Nat} {Q : Ending → World → Prop}

theorem wfield_any {f : Nat} {K : Nat → d.σ → Prop} {S : Acc → d.σ → Prop} (hI : d.Inv M s w) (hW : WalkAt d m t pred curr w) (ht : t ≤ 64) (hc : curr ≤ 1048576) (hf : f ≤ 8) (hmD : m ∉ d.D)
    (h : d.wp (load (field t curr f)) s K S) (hok : ∀ n s' w', Same d.D w w' → d.Inv M s' w' → n < W64 → K n s' → Q (.returned (.int .u64 n)) w') (hstop : d.Stops d.D M w S Q) :
    Calls Tryd.prog 33 #[.pointer (some ⟨m, 0, none⟩), .int .i64 f] w Q := by
  have c0 : w.cell? ⟨m, 0, none⟩ = some d.val := cell_of_block hW rfl
  have c1 : w.cell? ⟨m, 1, none⟩ = some (.int .i64 t) := cell_of_block hW rfl
  have c3 : w.cell? ⟨m, 3, none⟩ = some (.int .i64 curr) := cell_of_block hW rfl
  have hkeep : ∀ w', Same d.D w.drew w' → w'.cell? ⟨m, 0, none⟩ = some d.val ∧ w'.cell? ⟨m, 1, none⟩ = some (.int .i64 t) ∧ w'.cell? ⟨m, 3, none⟩ = some (.int .i64 curr) := fun w' hs =>
    have hW' : WalkAt d m t pred curr w' := WalkAt.same (w := w.drew) hW hs hmD
    ⟨cell_of_block hW' rfl, cell_of_block hW' rfl, cell_of_block hW' rfl⟩
  have HW := hid hW; clear hW
  go_enter Tryd.func33, Tryd.ntmps33
  go_wp2_with fail
  go_region_held2 (fun w' => w'.cell? ⟨m, 0, none⟩ = some d.val ∧ w'.cell? ⟨m, 1, none⟩ = some (.int .i64 t) ∧ w'.cell? ⟨m, 3, none⟩ = some (.int .i64 curr))
    (first | exact ⟨c0, c1, c3⟩ | exact hkeep _ ‹_›)
    (first
      | (go_at_call 55; refine (Field_any ht hc hf).mono ?_; rintro e w' ⟨rfl, rfl⟩)
      | (go_at_call 38; refine load_any d (d.drew hI) h ?_ (fun a s w' av hs hI' ha hS => ⟨rfl, hstop.drew a s w' av hs hI' ha hS⟩); intro n s1 w1 hs1 hI1 hn hK; have HK := hid hK; have HN := hid hn; clear hK hn))
  go_wp2
  exact hok _ _ _ ((Same.refl _ w).drew.trans hs1 fun _ hx => .inl hx) hI1 HN.out HK.out

theorem on_any {nx : Nat} (hW : WalkAt d m t pred curr w) (hn : nx < W64)
    (hok : ∀ w', Same [m] w w' → WalkAt d m t curr (ref nx) w' → Q (.returned (.tuple #[])) w') :
    Calls Tryd.prog 45 #[.pointer (some ⟨m, 0, none⟩), .int .u64 nx] w Q := by
  have c2 : w.cell? ⟨m, 2, none⟩ = some (.int .i64 pred) := cell_of_block hW rfl
  have c3 : w.cell? ⟨m, 3, none⟩ = some (.int .i64 curr) := cell_of_block hW rfl
  have f2 : w.frozen? ⟨m, 2, none⟩ = false := frozen_of_block hW
  have f3 : w.frozen? ⟨m, 3, none⟩ = false := frozen_of_block hW
  have HW := hid hW; clear hW
  have HN := hid hn; clear hn
  go_enter Tryd.func45, Tryd.ntmps45
  go_wp2_with fail
  go_region_with (go_at_call 44; refine (Ref_any HN.out).mono ?_; rintro e w' ⟨rfl, rfl⟩)
  all_goals go_wp2
  all_goals go_end0
  all_goals exact hok _ ((((Same.refl [m] w).setCell (by simp) _).setCell (by simp) _).drew) (block_set (block_set HW.out))

theorem start_any {K : Nat → d.σ → Prop} {S : Acc → d.σ → Prop} (hI : d.Inv M s w) (hW : WalkAt d m t pred curr w) (ht : t ≤ 64) (hmD : m ∉ d.D) (hmM : m ∈ M)
    (h : d.wp (load 0) s K S) (hok : ∀ n s' w', Same (m :: d.D) w w' → d.Inv M s' w' → WalkAt d m t 0 (ref n) w' → K n s' → Q (.returned (.tuple #[])) w') (hstop : d.Stops (m :: d.D) M w S Q) :
    Calls Tryd.prog 53 #[.pointer (some ⟨m, 0, none⟩)] w Q := by
  have c0 : w.cell? ⟨m, 0, none⟩ = some d.val := cell_of_block hW rfl
  have c1 : w.cell? ⟨m, 1, none⟩ = some (.int .i64 t) := cell_of_block hW rfl
  have hkeep : ∀ w', Same d.D w.drew w' → WalkAt d m t pred curr w' := fun w' hs => WalkAt.same (w := w.drew) hW hs hmD
  have HW := hid hW; clear hW
  go_enter Tryd.func53, Tryd.ntmps53
  go_wp2_with fail
  go_region_held2 (fun w' => w'.cell? ⟨m, 0, none⟩ = some d.val ∧ w'.cell? ⟨m, 1, none⟩ = some (.int .i64 t))
    (first | exact ⟨c0, c1⟩ | (refine ⟨?_, ?_⟩ <;> (repeat rw [cell_set_off _ _ _ _ _ (by decide)]) <;> assumption))
    (first
      | (go_at_call 36; refine (CNext_any (r := 0) ht (by omega)).mono ?_; rintro e w' ⟨rfl, rfl⟩)
      | (go_at_call 38; refine load_any d (d.drew hI) h ?_ (fun a s w' av hs hI' ha hS => ⟨rfl, hstop.drew a s w' av (hs.mono fun x hx => .inl (List.mem_cons_of_mem _ hx)) hI' ha hS⟩); intro n s1 w1 hs1 hI1 hn hK; have HK := hid hK; have HN := hid hn; clear hK hn; have hW1 := hkeep w1 hs1; have d0 : w1.cell? ⟨m, 0, none⟩ = some d.val := cell_of_block hW1 rfl; have d1 : w1.cell? ⟨m, 1, none⟩ = some (.int .i64 t) := cell_of_block hW1 rfl; have d2 : w1.cell? ⟨m, 2, none⟩ = some (.int .i64 pred) := cell_of_block hW1 rfl; have d3 : w1.cell? ⟨m, 3, none⟩ = some (.int .i64 curr) := cell_of_block hW1 rfl; have g2 : w1.frozen? ⟨m, 2, none⟩ = false := frozen_of_block hW1; have g3 : w1.frozen? ⟨m, 3, none⟩ = false := frozen_of_block hW1; have HW1 := hid hW1; clear hW1)
      | (go_at_call 44; refine (Ref_any (by exact HN.out)).mono ?_; rintro e w' ⟨rfl, rfl⟩))
  go_end0
  have hsm : Same (m :: d.D) w ((w1.setCell ⟨m, 2, none⟩ (.int .i64 0)).setCell ⟨m, 3, none⟩ (.int .i64 (ref n : Nat))) :=
    ((((Same.refl _ w).drew).trans hs1 fun x hx => .inl (List.mem_cons_of_mem _ hx)).set (.inl (List.mem_cons_self ..))).set (.inl (List.mem_cons_self ..))
  exact hok _ _ _ hsm (d.setLocal (d.setLocal hI1 hmM hmD) hmM hmD) (block_set (block_set HW1.out)) HK.out
end
end Go.Proofs.YtdfeinfaljidgaaDoor
