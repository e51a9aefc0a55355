/- The contracts of save.rest and Save. -/
import Derived.Test.YtdfeinfaljidgaaDoorSave
import Derived.WalkSpells
namespace Go.Proofs.YtdfeinfaljidgaaDoor
open Go Go.RowKit

/-- What save.bytes does. -/
def BytesSpec : Prop := ∀ (M : List Nat) (w : World) (st : Nat), (∀ x, x ∈ M → x < w.heap.size) → Halves w → st < W64 →
  Calls Tryd.prog 90 #[.agg #[.int .i64 2, .int .u64 st, .int .u64 0, .int .u64 0, .int .u64 0, .int .u64 0]] w fun e w' => Same [] w w' ∧ ∃ v, e = .returned v ∧ Bytes M w' v (bytesOf { kind := 2, stamp := st })

section
variable (d : DoSem) {M : List Nat} {s : d.σ} {w : World} {t r : Nat} {Q : Ending → World → Prop} {S : Acc → d.σ → Prop}

theorem rest_has {n bit f : Nat} {K : Bool → d.σ → Prop} (hI : d.Inv M s w) (hf : f < W64) (hbit : bit = 1 ∨ bit = 2) (hb : hasBit f bit = true)
    (h : d.wp (restP n t r bit f) s K S) (hok : ∀ x s' w', Same d.D w w' → d.Inv M s' w' → K x s' → Q (.returned (.bool x)) w') :
    Calls Tryd.prog 84 #[d.val, .int .i64 t, .int .i64 r, .int .i64 bit, .int .u64 f] w Q := by
  have hK : K true s := d.wp_ret (by unfold restP at h; simpa [hb] using h)
  have HF := hid hf; have HB := hid hbit; have HK := hid hK; clear hf hbit hK h
  have hs : Same [] w ((((w.alloc (.cells #[d.val] 55)).alloc (.cells #[.int .i64 t] 3)).alloc (.cells #[.int .i64 r] 3)).alloc (.cells #[.int .i64 bit] 3)) := ((((Same.refl _ w).alloc _).alloc _).alloc _).alloc _
  have Hs := hid hs; clear hs
  unfold DoSem.val
  go_enter Tryd.func84, Tryd.ntmps84
  go_wp2_with fail
  refine (Has_any HF.out HB.out).mono ?_; rintro _ _ ⟨rfl, rfl⟩
  go_wp2_with fail
  exact hok _ _ _ (Hs.out.mono (by simp)) (d.keep hI Hs.out) HK.out

theorem rest_death {n f : Nat} {K : Bool → d.σ → Prop} (HBy : BytesSpec) (hI : d.Inv M s w) (ht : t ≤ 64) (hr : r ≤ 1048576) (hf : f < W64) (hb : hasBit f 2 = false)
    (h : d.wp (restP n t r 2 f) s K S) (hok : ∀ x s' w', Same d.D w w' → d.Inv M s' w' → K x s' → Q (.returned (.bool x)) w') (hstop : d.Stops d.D M w S Q) :
    Calls Tryd.prog 84 #[d.val, .int .i64 t, .int .i64 r, .int .i64 2, .int .u64 f] w Q := by
  have hK : d.wp (diskP [{ kind := 5, data := bytesOf { kind := 2, stamp := stamp f } }, { kind := 6 }]) s (fun ok s' => d.wp (if ok = false then pure false else do setLoop t r 2 (fun g => stamp g != stamp f || hasBit g 2) n; pure true) s' K S) S := by
    unfold restP entryP at h
    rw [if_neg (by simp [hb])] at h
    exact d.wp_bind (by simpa using h)
  have hst : stamp f < W64 := by unfold stamp; omega
  have HF := hid hf; have HK := hid hK; have HST := hid hst; clear hf hK h hst
  have hmf : ∀ (fn : Fn) (first cap : Array Value) (w : World), (Instr.makeFunc fn first cap).run Tryd.prog w = .ok (.func fn first cap) w := fun _ _ _ _ => rfl
  unfold DoSem.val
  go_enter Tryd.func84, Tryd.ntmps84
  go_wp2_with fail
  refine (Has_any (bit := 2) HF.out (.inr rfl)).mono ?_; rintro _ _ ⟨rfl, rfl⟩
  go_wp2_with fail
  refine Stamp_any.mono ?_; rintro _ _ ⟨rfl, rfl⟩
  go_wp2_with fail
  refine wp_gen fun W hW => ?_
  have b0 : W.heap[w.heap.size]? = some (.cells #[d.val] 55 (0, 0)) := by rw [hW]; exact block_old (block_old (block_old (block_old (block_at (by simp)))))
  have b1 : W.heap[w.heap.size + 1]? = some (.cells #[.int .i64 t] 3 (0, 0)) := by rw [hW]; exact block_old (block_old (block_old (block_at (by simp))))
  have b2 : W.heap[w.heap.size + 1 + 1]? = some (.cells #[.int .i64 r] 3 (0, 0)) := by rw [hW]; exact block_old (block_old (block_at (by simp)))
  have b3 : W.heap[w.heap.size + 1 + 1 + 1]? = some (.cells #[.int .i64 2] 3 (0, 0)) := by rw [hW]; exact block_old (block_at (by simp))
  have b4 : W.heap[w.heap.size + 1 + 1 + 1 + 1]? = some (.cells #[.int .i64 2, .int .u64 (stamp f : Nat), .int .u64 0, .int .u64 0, .int .u64 0, .int .u64 0] 143 (0, 0)) := by rw [hW]; exact block_at (by simp)
  have hs0 : Same [] w W := by rw [hW]; exact (((((Same.refl _ w).alloc _).alloc _).alloc _).alloc _).alloc _
  have hlt : ∀ k, k ∈ M → k < w.heap.size := d.lt hI
  have hI0 := d.keep hI hs0
  have hkeep : ∀ w', Same d.D W w' → (∀ k, w.heap.size ≤ k → k < W.heap.size → w'.heap[k]? = W.heap[k]?) := fun w' hs k h1 h2 => hs.block k h2 (d.notin hI h1)
  have hsz : W.heap.size = w.heap.size + 1 + 1 + 1 + 1 + 1 := by rw [hW]; simp
  have hS : ∀ w', Same d.D W w' → w'.cell? ⟨w.heap.size, 0, none⟩ = some d.val ∧ w'.cell? ⟨w.heap.size + 1 + 1 + 1 + 1, 0, none⟩ = some (.int .i64 2) ∧ w'.cell? ⟨w.heap.size + 1 + 1 + 1 + 1, 1, none⟩ = some (.int .u64 (stamp f : Nat)) ∧ w'.cell? ⟨w.heap.size + 1 + 1 + 1 + 1, 2, none⟩ = some (.int .u64 0) ∧ w'.cell? ⟨w.heap.size + 1 + 1 + 1 + 1, 3, none⟩ = some (.int .u64 0) ∧ w'.cell? ⟨w.heap.size + 1 + 1 + 1 + 1, 4, none⟩ = some (.int .u64 0) ∧ w'.cell? ⟨w.heap.size + 1 + 1 + 1 + 1, 5, none⟩ = some (.int .u64 0) := fun w' hs =>
    ⟨cell_of_block ((hkeep w' hs _ (Nat.le_refl _) (lt_of_some b0)).trans b0) rfl, cells6 ((hkeep w' hs _ (by omega) (lt_of_some b4)).trans b4)⟩
  have hsd : Same d.D W W.drew := (Same.refl _ W).drew
  have HH0 : Halves W := d.halves hI0
  clear hW
  have HB0 := hid b0; have HB1 := hid b1; have HB2 := hid b2; have HB3 := hid b3; have HB4 := hid b4; have Hkeep := hid hkeep; have Hsz := hid hsz; have Hs0 := hid hs0; have Hlt := hid hlt
  clear b0 b1 b2 b3 b4 hkeep hsz hs0 hlt
  go_region_held2 (fun w' => w'.cell? ⟨w.heap.size, 0, none⟩ = some d.val ∧ w'.cell? ⟨w.heap.size + 1 + 1 + 1 + 1, 0, none⟩ = some (.int .i64 2) ∧ w'.cell? ⟨w.heap.size + 1 + 1 + 1 + 1, 1, none⟩ = some (.int .u64 (stamp f : Nat)) ∧ w'.cell? ⟨w.heap.size + 1 + 1 + 1 + 1, 2, none⟩ = some (.int .u64 0) ∧ w'.cell? ⟨w.heap.size + 1 + 1 + 1 + 1, 3, none⟩ = some (.int .u64 0) ∧ w'.cell? ⟨w.heap.size + 1 + 1 + 1 + 1, 4, none⟩ = some (.int .u64 0) ∧ w'.cell? ⟨w.heap.size + 1 + 1 + 1 + 1, 5, none⟩ = some (.int .u64 0))
    (first | exact hS _ hsd | exact hS _ hs2 | exact hS _ (hs2.alloc _) | exact hS _ hs4)
    (first
      | (go_at_call 90; go_must (refine (HBy M W.drew _ (fun x hx => Nat.lt_of_lt_of_le (Hlt.out x hx) Hs0.out.size) HH0 HST.out).mono ?_); rintro _ w2 ⟨hk2, v2, rfl, hv2⟩; obtain ⟨va, vl, vc, rfl⟩ := hv2.form; have hs2 : Same d.D W w2 := hsd.thenKeep hk2; have hI2 := d.keep (d.drew hI0) hk2)
      | (go_at_call 89; have hI3 := d.allocOld (.cells #[.int .i64 5, .int .i64 0, .int .u64 0, .int .u64 0, .slice va vl vc, .slice none 0 0, .int .i64 6, .int .i64 0, .int .u64 0, .int .u64 0, .slice none 0 0, .slice none 0 0] 73) hI2; have hs3 : Same d.D W _ := hs2.alloc (.cells #[.int .i64 5, .int .i64 0, .int .u64 0, .int .u64 0, .slice va vl vc, .slice none 0 0, .int .i64 6, .int .i64 0, .int .u64 0, .int .u64 0, .slice none 0 0, .slice none 0 0] 73); go_must (refine disk_any d hI3 (block_new _ _) (d.notin hI2 (Nat.le_refl _)) (hv2.same ((Same.refl [] _).alloc _) (by simp)) HK.out ?_ (fun _ _ _ _ hs hI ha hS => ⟨rfl, hstop.at ((Hs0.out.mono (by simp)).then hs3) _ _ _ _ hs hI ha hS⟩)); intro b s4 w4 hs34 hI4 hK; have hs4 : Same d.D W w4 := hs3.then hs34; have HK4 := hid hK; clear hK))
  clear hS
  cases b with
  | false =>
    go_wp2_with fail
    exact hok _ _ _ ((Hs0.out.mono (by simp)).then hs4) hI4 (d.wp_ret (by simpa using HK4.out))
  | true =>
    have HK5 := hid (d.wp_bind (show d.wp (do setLoop t r 2 (fun g => stamp g != stamp f || hasBit g 2) n; pure true) s4 K S by simpa using HK4.out))
    clear HK4
    have hb4 := fun k h1 h2 => Hkeep.out w4 hs4 k h1 h2
    have q0 : w4.cell? ⟨w.heap.size, 0, none⟩ = some d.val := cell_of_block ((hb4 _ (Nat.le_refl _) (lt_of_some HB0.out)).trans HB0.out) rfl
    have q1 : w4.cell? ⟨w.heap.size + 1, 0, none⟩ = some (.int .i64 t) := cell_of_block ((hb4 _ (by omega) (lt_of_some HB1.out)).trans HB1.out) rfl
    have q2 : w4.cell? ⟨w.heap.size + 1 + 1, 0, none⟩ = some (.int .i64 r) := cell_of_block ((hb4 _ (by omega) (lt_of_some HB2.out)).trans HB2.out) rfl
    have q3 : w4.cell? ⟨w.heap.size + 1 + 1 + 1, 0, none⟩ = some (.int .i64 2) := cell_of_block ((hb4 _ (by omega) (lt_of_some HB3.out)).trans HB3.out) rfl
    have Hb4 := hid hb4; clear hb4
    go_wp2_with fail
    have p3 := (Hb4.out _ (by omega) (lt_of_some HB3.out)).trans HB3.out
    have p4 := (Hb4.out _ (by omega) (lt_of_some HB4.out)).trans HB4.out
    have hov : ∀ w' : World, (∀ b, (b = w.heap.size + 1 + 1 + 1 ∨ b = w.heap.size + 1 + 1 + 1 + 1) → w'.heap[b]? = w4.heap[b]?) → ∀ g, g < W64 → Calls Tryd.prog 91 #[.int .u64 g, .pointer (some ⟨w.heap.size + 1 + 1 + 1 + 1, 0, none⟩), .pointer (some ⟨w.heap.size + 1 + 1 + 1, 0, none⟩)] w' fun e w'' => e = .returned (.bool (stamp g != stamp f || hasBit g 2)) ∧ Same [] w' w'' := by
      intro w' hw g hg
      have r3 : w'.cell? ⟨w.heap.size + 1 + 1 + 1, 0, none⟩ = some (.int .i64 ((2 : Nat) : Int)) := cell_of_block ((hw _ (.inl rfl)).trans p3) rfl
      have r4 : w'.cell? ⟨w.heap.size + 1 + 1 + 1 + 1, 1, none⟩ = some (.int .u64 (stamp f : Nat)) := cell_of_block ((hw _ (.inr rfl)).trans p4) rfl
      exact restOver_any hg (.inr rfl) r4 r3
    refine set_any d hI4 ht hr (.inr rfl) (over := fun g => stamp g != stamp f || hasBit g 2) (B := fun b => b = w.heap.size + 1 + 1 + 1 ∨ b = w.heap.size + 1 + 1 + 1 + 1)
      ⟨_, _, rfl, fun _ _ => by kernel_rfl, hov⟩
      (fun b hb => ⟨hb.elim (fun h => h ▸ lt_of_some p3) (fun h => h ▸ lt_of_some p4), d.notin hI (by omega)⟩) HK5.out ?_ (fun _ _ _ _ hs hI ha hS => ⟨rfl, hstop.at ((Hs0.out.mono (by simp)).then hs4) _ _ _ _ hs hI ha hS⟩)
    intro s5 w5 hs5 hI5 hK
    have HK6 := hid (d.wp_ret hK); clear hK HK5
    go_wp2_with fail
    exact hok _ _ _ (((Hs0.out.mono (by simp)).then hs4).then hs5) hI5 HK6.out

theorem Save_death {n : Nat} {K : Bool → d.σ → Prop} (HBy : BytesSpec) (hI : d.Inv M s w) (ht : t ≤ 64) (hr : r ≤ 1048576)
    (h : d.wp (saveP n t r 2) s K S) (hok : ∀ x s' w', Same d.D w w' → d.Inv M s' w' → K x s' → Q (.returned (.bool x)) w') (hstop : d.Stops d.D M w S Q) :
    Calls Tryd.prog 69 #[d.val, .int .i64 t, .int .i64 r, .int .i64 2] w Q := by
  go_enter Tryd.func69, Tryd.ntmps69
  go_wp2_with fail
  refine flag_any d hI ht hr (d.wp_bind h) ?_ (fun _ _ _ _ hs hI ha hS => ⟨rfl, hstop _ _ _ _ hs hI ha hS⟩)
  intro f s1 w1 hs1 hI1 hf hK
  have HK := hid hK; have HF := hid hf; clear hK hf h
  have hup := hstop.at hs1
  go_wp2_with fail
  by_cases hb : hasBit f 2 = true
  · refine rest_has d hI1 HF.out (.inr rfl) hb HK.out ?_
    intro x s2 w2 hs2 hI2 hK
    have HK := hid hK; clear hK hb
    go_wp2_with fail
    exact hok _ _ _ (hs1.then hs2) hI2 HK.out
  · refine rest_death d HBy hI1 ht hr HF.out (by simpa using hb) HK.out ?_ (fun _ _ _ _ hs hI ha hS => ⟨rfl, hup _ _ _ _ hs hI ha hS⟩)
    intro x s2 w2 hs2 hI2 hK
    have HK := hid hK; clear hK hb
    go_wp2_with fail
    exact hok _ _ _ (hs1.then hs2) hI2 HK.out
end
end Go.Proofs.YtdfeinfaljidgaaDoor
