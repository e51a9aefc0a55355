/- The contract of the walk's 'out': a marked record is taken out. -/
import Derived.Test.YtdfeinfaljidgaaDoorWalk
import Derived.Test.YtdfeinfaljidgaaDoorRest
namespace Go.Proofs.YtdfeinfaljidgaaDoor
open Go Go.RowKit

section
variable (d : DoSem) {M : List Nat} {s : d.σ} {w : World} {m t pred curr : Nat} {Q : Ending → World → Prop} {S : Acc → d.σ → Prop}

theorem out_any {n nx : Nat} {K : (Bool × Bool) → d.σ → Prop} (HBy : BytesSpec) (hI : d.Inv M s w) (hW : WalkAt d m t pred curr w) (ht : t ≤ 64) (hp : pred ≤ 1048575) (hc : curr ≤ 1048575) (hn : nx < W64)
    (hmD : m ∉ d.D) (hmM : m ∈ M) (h : d.wp (outP n t pred curr nx) s K S)
    (hok : ∀ a s' w', Same (m :: d.D) w w' → d.Inv M s' w' → WalkAt d m t pred (if a.1 then ref nx else curr) w' → K a s' → Q (.returned (.tuple #[.bool a.1, .bool a.2])) w') (hstop : d.Stops d.D M w S Q) :
    Calls Tryd.prog 54 #[.pointer (some ⟨m, 0, none⟩), .int .u64 nx] w Q := by
  obtain ⟨c0, c1, c2, c3⟩ := cells4 hW
  have hkeep : ∀ w', Same d.D w w' → WalkAt d m t pred curr w' := fun w' hs => hW.same hs hmD
  have HW := hid hW; have HN := hid hn; have Hk := hid hkeep; clear hW hn hkeep
  have hS1 : ∀ w', Same d.D w.drew w' → w'.cell? ⟨m, 0, none⟩ = some d.val ∧ w'.cell? ⟨m, 1, none⟩ = some (.int .i64 t) ∧ w'.cell? ⟨m, 2, none⟩ = some (.int .i64 pred) ∧ w'.cell? ⟨m, 3, none⟩ = some (.int .i64 curr) := fun w' hs =>
    cells4 (Hk.out w' (((Same.refl _ w).drew).then hs))
  go_enter Tryd.func54, Tryd.ntmps54
  go_wp2_with fail
  go_region_held2 (fun w' => w'.cell? ⟨m, 0, none⟩ = some d.val ∧ w'.cell? ⟨m, 1, none⟩ = some (.int .i64 t) ∧ w'.cell? ⟨m, 2, none⟩ = some (.int .i64 pred) ∧ w'.cell? ⟨m, 3, none⟩ = some (.int .i64 curr))
    (first | exact ⟨c0, c1, c2, c3⟩ | exact hS1 _ ‹Same d.D w.drew _›)
    ((go_at_call 69; go_must (refine Save_death d HBy (d.drew hI) ht (by omega) (d.wp_bind h) ?_ (fun _ _ _ _ hs hI ha hS => ⟨rfl, hstop.drew _ _ _ _ hs hI ha hS⟩)); intro b s1 w1 hs1 hI1 hK; have HK := hid hK; clear hK))
  clear hS1
  have h01 : Same d.D w w1 := ((Same.refl _ w).drew).then hs1
  have hup := hstop.at h01
  cases b with
  | false =>
    have HK1 : Hid (K (false, false) s1) := hid (d.wp_ret (by simpa using HK.out))
    clear HK
    go_wp2_with fail
    exact hok (false, false) _ _ (h01.mono fun x hx => .inl (List.mem_cons_of_mem _ hx)) hI1 (Hk.out _ h01) HK1.out
  | true =>
    have HK1 := hid (d.wp_bind (show d.wp (do let done ← cas (next t pred) (link curr false) (link (ref nx) false); if done = false then pure (false, true) else do retireP n t curr; pure (true, true)) s1 K S by simpa using HK.out))
    clear HK
    obtain ⟨e0, e1, e2, e3⟩ := cells4 (Hk.out _ h01)
    have H01 := hid h01; clear h01
    have hrn := ref_lt nx
    have hS2 : ∀ w', Same d.D w1.drew w' → w'.cell? ⟨m, 0, none⟩ = some d.val ∧ w'.cell? ⟨m, 1, none⟩ = some (.int .i64 t) ∧ w'.cell? ⟨m, 2, none⟩ = some (.int .i64 pred) ∧ w'.cell? ⟨m, 3, none⟩ = some (.int .i64 curr) := fun w' hs =>
      cells4 (Hk.out w' (H01.out.then (((Same.refl _ w1).drew).then hs)))
    clear c0 c1 c2 c3
    go_wp2_with fail
    go_region_held2 (fun w' => w'.cell? ⟨m, 0, none⟩ = some d.val ∧ w'.cell? ⟨m, 1, none⟩ = some (.int .i64 t) ∧ w'.cell? ⟨m, 2, none⟩ = some (.int .i64 pred) ∧ w'.cell? ⟨m, 3, none⟩ = some (.int .i64 curr))
      (first | exact ⟨e0, e1, e2, e3⟩ | exact hS2 _ hs2)
      (first
        | (go_at_call 36; refine (CNext_any ht (by omega)).mono ?_; rintro e w' ⟨rfl, rfl⟩)
        | (go_at_call 34; refine (Link_any (by omega)).mono ?_; rintro e w' ⟨rfl, rfl⟩)
        | (go_at_call 44; refine (Ref_any HN.out).mono ?_; rintro e w' ⟨rfl, rfl⟩)
        | (go_at_call 37; go_must (refine cas_any d (d.drew hI1) (link_lt (by omega)) (link_lt (by omega)) HK1.out ?_ (fun _ _ _ _ hs hI ha hS => ⟨rfl, hup.drew _ _ _ _ hs hI ha hS⟩)); intro b s2 w2 hs2 hI2 hK; have HK := hid hK; clear hK))
    clear hS2
    have h02 : Same d.D w w2 := H01.out.then (((Same.refl _ w1).drew).then hs2)
    have hup := hstop.at h02
    cases b with
    | false =>
      have HK2 : Hid (K (false, true) s2) := hid (d.wp_ret (by simpa using HK.out))
      clear HK HK1
      go_wp2_with fail
      exact hok (false, true) _ _ (h02.mono fun x hx => .inl (List.mem_cons_of_mem _ hx)) hI2 (Hk.out _ h02) HK2.out
    | true =>
      have HK2 := hid (d.wp_bind (show d.wp (do retireP n t curr; pure (true, true)) s2 K S by simpa using HK.out))
      clear HK HK1 e0 e1 e2 e3
      obtain ⟨e0, e1, e2, e3⟩ := cells4 (Hk.out _ h02)
      have H02 := hid h02; clear h02
      have hS3 : ∀ w', Same d.D w2.drew w' → w'.cell? ⟨m, 0, none⟩ = some d.val ∧ w'.cell? ⟨m, 1, none⟩ = some (.int .i64 t) := fun w' hs =>
        let h := cells4 (Hk.out w' (H02.out.then (((Same.refl _ w2).drew).then hs))); ⟨h.1, h.2.1⟩
      go_wp2_with fail
      go_region_held2 (fun w' => w'.cell? ⟨m, 0, none⟩ = some d.val ∧ w'.cell? ⟨m, 1, none⟩ = some (.int .i64 t))
        (first | exact ⟨e0, e1⟩ | exact hS3 _ hs3)
        ((go_at_call 70; go_must (refine Retire_any d (d.drew hI2) ht (by omega) HK2.out ?_ (fun _ _ _ _ hs hI ha hS => ⟨rfl, hup.drew _ _ _ _ hs hI ha hS⟩)); intro s3 w3 hs3 hI3 hK; have HK := hid (d.wp_ret hK); clear hK))
      clear hS3
      have h03 : Same d.D w w3 := H02.out.then (((Same.refl _ w2).drew).then hs3)
      have hW3 := Hk.out _ h03
      clear e0 e1 e2 e3
      obtain ⟨e0, e1, e2, e3⟩ := cells4 hW3
      have f3 : w3.frozen? ⟨m, 3, none⟩ = false := frozen_of_block hW3
      have H03 := hid h03; have HW3 := hid hW3; clear h03 hW3
      go_wp2_with fail
      refine (Ref_any HN.out).mono ?_; rintro _ _ ⟨rfl, rfl⟩
      go_wp2_with fail
      exact hok (true, true) _ _ ((H03.out.mono fun x hx => .inl (List.mem_cons_of_mem _ hx)).set (.inl (List.mem_cons_self ..))) (d.setLocal hI3 hmM hmD) (block_set HW3.out) HK.out
end
end Go.Proofs.YtdfeinfaljidgaaDoor
