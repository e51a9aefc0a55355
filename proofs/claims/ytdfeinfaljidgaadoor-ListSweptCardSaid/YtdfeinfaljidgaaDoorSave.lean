/- The contracts of packages epoch (Retire) and save over whoever makes their accesses. -/
import Derived.Test.YtdfeinfaljidgaaDoorDo
import Derived.Test.YtdfeinfaljidgaaDoorPure
import Derived.Deep.RegionHeld2
import Derived.Deep.LoopGhost
namespace Go.Proofs.YtdfeinfaljidgaaDoor
open Go Go.RowKit

section
variable (d : DoSem) {M : List Nat} {s : d.σ} {w : World} {t r : Nat} {Q : Ending → World → Prop} {S : Acc → d.σ → Prop}

theorem Retire_any {n : Nat} {K : Unit → d.σ → Prop} (hI : d.Inv M s w) (ht : t ≤ 64) (hr : r ≤ 1048576)
    (h : d.wp (retireP n t r) s K S) (hok : ∀ s' w', Same d.D w w' → d.Inv M s' w' → K () s' → Q (.returned (.tuple #[])) w') (hstop : d.Stops d.D M w S Q) :
    Calls Tryd.prog 70 #[d.val, .int .i64 t, .int .i64 r] w Q := by
  have hrb : (r : Int) < 9223372036854775808 := by omega
  go_enter Tryd.func70, Tryd.ntmps70
  go_wp2_with fail
  refine load_any d hI (d.wp_bind h) ?_ (fun a s w' av hs hI' ha hS => ⟨rfl, hstop a s w' av hs hI' ha hS⟩)
  intro e s1 w1 hs1 hI1 _ hK
  have HK := hid hK; clear hK h
  go_wp2_with fail
  refine (limbo_any (n := e)).mono ?_; rintro _ _ ⟨rfl, rfl⟩
  go_wp2_with fail
  go_loopg [7] n (fun k v wr => Same d.D w wr ∧ ∃ s', d.Inv M s' wr ∧ ((v = .bool false ∧ d.wp (retireLoop (limbo e) t r k) s' K S) ∨ (v = .bool true ∧ K () s')))
  case atStart => exact ⟨hs1, s1, hI1, .inl ⟨rfl, HK.out⟩⟩
  case round =>
    obtain ⟨hsr, s2, hI2, ⟨rfl, hK⟩ | ⟨rfl, hK⟩⟩ := hrel
    · cases gk with
      | zero => exact hK.elim
      | succ k =>
        have hl : limbo e ≤ 6 := by unfold limbo; omega
        have hup := hstop.at hsr
        have HK := hid hK; clear hK
        go_wp2_with fail
        refine load_any d hI2 (d.wp_bind HK.out) ?_ (fun _ _ _ _ hs hI ha hS => ⟨rfl, hup _ _ _ _ hs hI ha hS⟩)
        intro h s3 w3 hs3 hI3 hh hK
        have HK := hid hK; have HH := hid hh; clear hK hh
        have hup := hup.at hs3
        go_wp2_with fail
        refine (Field_any (f := 7) ht hr (by omega)).mono ?_; rintro _ _ ⟨rfl, rfl⟩
        go_wp2_with fail
        refine store_any d hI3 HH.out (d.wp_bind HK.out) ?_ (fun _ _ _ _ hs hI ha hS => ⟨rfl, hup _ _ _ _ hs hI ha hS⟩)
        intro s4 w4 hs4 hI4 hK
        have HK := hid hK; clear hK
        have hup := hup.at hs4
        go_wp2_with fail
        refine cas_any d hI4 HH.out (by unfold W64; omega) (d.wp_bind HK.out) ?_ (fun _ _ _ _ hs hI ha hS => ⟨rfl, hup _ _ _ _ hs hI ha hS⟩)
        intro b s5 w5 hs5 hI5 hK
        have HK := hid hK; clear hK
        go_wp2_with fail
        go_roundg k
        case measure => omega
        case rel =>
          refine ⟨((hsr.then hs3).then hs4).then hs5, s5, hI5, ?_⟩
          cases b with
          | true => exact .inr ⟨rfl, d.wp_ret (by simpa using HK.out)⟩
          | false => exact .inl ⟨rfl, by simpa using HK.out⟩
    · have HK := hid hK; clear hK
      go_wp2_with fail
      go_end0
      exact hok _ _ hsr hI2 HK.out

theorem flag_any {K : Nat → d.σ → Prop} (hI : d.Inv M s w) (ht : t ≤ 64) (hr : r ≤ 1048576)
    (h : d.wp (flagP t r) s K S) (hok : ∀ n s' w', Same d.D w w' → d.Inv M s' w' → n < W64 → K n s' → Q (.returned (.int .u64 n)) w') (hstop : d.Stops d.D M w S Q) :
    Calls Tryd.prog 72 #[d.val, .int .i64 t, .int .i64 r] w Q := by
  go_enter Tryd.func72, Tryd.ntmps72
  go_wp2_with fail
  refine (Field_any (f := 2) ht hr (by omega)).mono ?_; rintro _ _ ⟨rfl, rfl⟩
  go_wp2_with fail
  refine load_any d hI h ?_ (fun _ _ _ _ hs hI ha hS => ⟨rfl, hstop _ _ _ _ hs hI ha hS⟩)
  intro n s1 w1 hs1 hI1 hn hK
  have HK := hid hK; have HN := hid hn; clear hK hn
  go_wp2
  exact hok _ _ _ hs1 hI1 HN.out HK.out

/-- What 'over' promises: a function of a flag, that reads. -/
def OverAt (ov : Value) (over : Nat → Bool) (B : Nat → Prop) (w : World) : Prop :=
  ∃ g caps, ov = .func (.func g) #[] caps ∧ (∀ args w, (callFunc g args).run Tryd.prog w = .ok (.enter g args) w) ∧
    ∀ w', (∀ b, B b → w'.heap[b]? = w.heap[b]?) → ∀ f, f < W64 → Calls Tryd.prog g (#[.int .u64 f] ++ caps) w' fun e w'' => e = .returned (.bool (over f)) ∧ Same [] w' w''

theorem or_u64 {f bit : Nat} (hf : f < W64) (hb : bit < 4) : bits .or .u64 (f : Int) (bit : Int) = ((f ||| bit : Nat) : Int) := u64_or_nat _ _ (by unfold W64 at hf; omega) (by omega)
theorem or_lt {f bit : Nat} (hf : f < W64) (hb : bit < 4) : f ||| bit < W64 := Nat.or_lt_two_pow (n := 64) (by unfold W64 at hf; omega) (by omega)

theorem set_any {n bit : Nat} {over : Nat → Bool} {ov : Value} {B : Nat → Prop} {K : Unit → d.σ → Prop} (hI : d.Inv M s w) (ht : t ≤ 64) (hr : r ≤ 1048576) (hbit : bit = 1 ∨ bit = 2)
    (hov : OverAt ov over B w) (hB : ∀ b, B b → b < w.heap.size ∧ b ∉ d.D)
    (h : d.wp (setLoop t r bit over n) s K S) (hok : ∀ s' w', Same d.D w w' → d.Inv M s' w' → K () s' → Q (.returned (.tuple #[])) w') (hstop : d.Stops d.D M w S Q) :
    Calls Tryd.prog 56 #[d.val, .int .i64 t, .int .i64 r, .int .i64 bit, ov] w Q := by
  obtain ⟨g, caps, rfl, henter, hcall⟩ := hov
  have hbb : bit < 4 := by omega
  have HB := hid hbit; clear hbit
  go_enter Tryd.func56, Tryd.ntmps56
  go_wp2_with fail
  go_loopg [10] n (fun k _ wr => Same d.D w wr ∧ ∃ s', d.Inv M s' wr ∧ d.wp (setLoop t r bit over k) s' K S)
  case atStart => exact ⟨Same.refl _ _, s, hI, h⟩
  case round =>
    obtain ⟨hsr, s2, hI2, hK⟩ := hrel
    clear h
    cases gk with
    | zero => exact hK.elim
    | succ k =>
      have hup := hstop.at hsr
      have HK := hid hK; clear hK
      go_wp2_with fail
      refine flag_any d hI2 ht hr (d.wp_bind HK.out) ?_ (fun _ _ _ _ hs hI ha hS => ⟨rfl, hup _ _ _ _ hs hI ha hS⟩)
      intro f s3 w3 hs3 hI3 hf hK
      have HK := hid hK; have HF := hid hf; clear hK hf
      have hup := hup.at hs3
      have h03 := hsr.then hs3
      go_wp2_with fail
      refine (hcall w3 (fun b hb => h03.block b (hB b hb).1 (hB b hb).2) f HF.out).mono ?_
      rintro _ w4 ⟨rfl, hs4⟩
      have hI4 := d.keep hI3 hs4
      have hup := hup.keep hs4
      have h04 := h03.thenKeep hs4
      clear hcall henter
      by_cases ho : over f = true
      · rw [if_pos ho] at HK
        go_wp2_with fail
        go_end0
        exact hok _ _ h04 hI4 (d.wp_ret HK.out)
      · rw [if_neg ho] at HK
        have ho' : over f = false := by simpa using ho
        clear ho
        go_wp2_with fail
        refine (Field_any (f := 2) ht hr (by omega)).mono ?_; rintro _ _ ⟨rfl, rfl⟩
        go_wp2_with fail
        rw [or_u64 HF.out hbb]
        refine cas_any d hI4 HF.out (or_lt HF.out hbb) (d.wp_bind HK.out) ?_ (fun _ _ _ _ hs hI ha hS => ⟨rfl, hup _ _ _ _ hs hI ha hS⟩)
        intro b s5 w5 hs5 hI5 hK
        have HK := hid hK; clear hK
        have h05 := h04.then hs5
        cases b with
        | true =>
          go_wp2_with fail
          go_end0
          exact hok _ _ h05 hI5 (d.wp_ret (by simpa using HK.out))
        | false =>
          go_wp2_with fail
          go_roundg k
          case measure => omega
          case rel => exact ⟨h05, s5, hI5, by simpa using HK.out⟩

theorem SetOver_any {bit b : Nat} {f : Nat} (hf : f < W64) (hbit : bit = 1 ∨ bit = 2) (hb : w.cell? ⟨b, 0, none⟩ = some (.int .i64 bit)) :
    Calls Tryd.prog 57 #[.int .u64 f, .pointer (some ⟨b, 0, none⟩)] w fun e w' => e = .returned (.bool (hasBit f bit)) ∧ w = w' := by
  have HF := hid hf; have HB := hid hbit; clear hf hbit
  go_enter Tryd.func57, Tryd.ntmps57
  go_wp2_with (go_at_call 58; refine (Has_any HF.out HB.out).mono ?_; rintro e w' ⟨rfl, rfl⟩)
  go_ret
  exact ⟨rfl, rfl⟩

theorem Set_any {n bit : Nat} {K : Unit → d.σ → Prop} (hI : d.Inv M s w) (ht : t ≤ 64) (hr : r ≤ 1048576) (hbit : bit = 1 ∨ bit = 2)
    (h : d.wp (setP n t r bit) s K S) (hok : ∀ s' w', Same d.D w w' → d.Inv M s' w' → K () s' → Q (.returned (.tuple #[])) w') (hstop : d.Stops d.D M w S Q) :
    Calls Tryd.prog 43 #[d.val, .int .i64 t, .int .i64 r, .int .i64 bit] w Q := by
  have hmf : ∀ (fn : Fn) (first cap : Array Value) (w : World), (Instr.makeFunc fn first cap).run Tryd.prog w = .ok (.func fn first cap) w := fun _ _ _ _ => rfl
  go_enter Tryd.func43, Tryd.ntmps43
  go_wp2_with fail
  have hs0 : Same [] w (w.alloc (.cells #[.int .i64 bit] 3)) := (Same.refl [] w).alloc _
  have hcell : ∀ w' : World, w'.heap[w.heap.size]? = (w.alloc (.cells #[.int .i64 bit] 3)).heap[w.heap.size]? → w'.cell? ⟨w.heap.size, 0, none⟩ = some (.int .i64 bit) := fun w' hw =>
    cell_of_block (hw.trans (block_new w _)) rfl
  refine set_any d (d.keep hI hs0) ht hr hbit (B := fun b => b = w.heap.size)
    ⟨_, _, rfl, fun _ _ => by kernel_rfl, fun w' hw f hf => (SetOver_any hf hbit (hcell w' (hw _ rfl))).mono fun _ _ ⟨he, hw⟩ => ⟨he, hw ▸ Same.refl _ _⟩⟩
    (fun b hb => by subst hb; exact ⟨by simp, d.notin hI (Nat.le_refl _)⟩) h ?_ (fun _ _ _ _ hs hI ha hS => ⟨rfl, hstop.keep hs0 _ _ _ _ hs hI ha hS⟩)
  intro s1 w1 hs1 hI1 hK
  have HK := hid hK; clear hK
  go_wp2_with fail
  go_end0
  exact hok _ _ ((hs0.mono (by simp)).then hs1) hI1 HK.out

/-- rest's closure: it loads a word of the record. -/
theorem restLoad_any {f bd bt br : Nat} {K : Nat → d.σ → Prop} (hI : d.Inv M s w) (ht : t ≤ 64) (hr : r ≤ 1048576) (hf : f ≤ 8)
    (c0 : w.cell? ⟨bd, 0, none⟩ = some d.val) (c1 : w.cell? ⟨bt, 0, none⟩ = some (.int .i64 t)) (c2 : w.cell? ⟨br, 0, none⟩ = some (.int .i64 r)) (hkeep : ∀ w', Same d.D w.drew w' → w'.cell? ⟨bd, 0, none⟩ = some d.val ∧ w'.cell? ⟨bt, 0, none⟩ = some (.int .i64 t) ∧ w'.cell? ⟨br, 0, none⟩ = some (.int .i64 r))
    (h : d.wp (load (field t r f)) s K S) (hok : ∀ n s' w', Same d.D w w' → d.Inv M s' w' → n < W64 → K n s' → Q (.returned (.int .u64 n)) w') (hstop : d.Stops d.D M w S Q) :
    Calls Tryd.prog 88 #[.int .i64 f, .pointer (some ⟨bd, 0, none⟩), .pointer (some ⟨bt, 0, none⟩), .pointer (some ⟨br, 0, none⟩)] w Q := by
  go_enter Tryd.func88, Tryd.ntmps88
  go_wp2_with fail
  go_region_held2 (fun w' => w'.cell? ⟨bd, 0, none⟩ = some d.val ∧ w'.cell? ⟨bt, 0, none⟩ = some (.int .i64 t) ∧ w'.cell? ⟨br, 0, none⟩ = some (.int .i64 r))
    (first | exact ⟨c0, c1, c2⟩ | exact hkeep _ ‹_›)
    (first
      | (go_at_call 55; refine (Field_any ht hr hf).mono ?_; rintro e w' ⟨rfl, rfl⟩)
      | (go_at_call 38; refine load_any d (d.drew hI) h ?_ (fun _ _ _ _ hs hI' ha hS => ⟨rfl, hstop.drew _ _ _ _ hs hI' ha hS⟩); intro n s1 w1 hs1 hI1 hn hK; have HK := hid hK; have HN := hid hn; clear hK hn))
  go_wp2
  exact hok _ _ _ (((Same.refl _ w).drew).then hs1) hI1 HN.out HK.out

theorem restOver_any {st bit be bb : Nat} {f : Nat} (hf : f < W64) (hbit : bit = 1 ∨ bit = 2) (hc : w.cell? ⟨be, 1, none⟩ = some (.int .u64 st)) (hb : w.cell? ⟨bb, 0, none⟩ = some (.int .i64 bit)) :
    Calls Tryd.prog 91 #[.int .u64 f, .pointer (some ⟨be, 0, none⟩), .pointer (some ⟨bb, 0, none⟩)] w fun e w' => e = .returned (.bool (stamp f != st || hasBit f bit)) ∧ Same [] w w' := by
  have HF := hid hf; have HB := hid hbit; clear hf hbit
  by_cases hst : stamp f = st
  · have g : (((stamp f : Nat) : Int) != (st : Int)) = false := by simp [hst]
    have hr : (stamp f != st || hasBit f bit) = hasBit f bit := by simp [hst]
    rw [hr]
    have HS := hid hst; clear hst
    go_enter Tryd.func91, Tryd.ntmps91
    go_wp2_with fail
    go_quiet ((first | (go_at_call 87; exact quietC Stamp_any) | (go_at_call 58; exact quietC (Has_any HF.out HB.out))))
    go_wp2
    go_ret
    exact ⟨rfl, (Same.refl _ w).drewN _⟩
  · have g : (((stamp f : Nat) : Int) != (st : Int)) = true := by simp; omega
    have hr : (stamp f != st || hasBit f bit) = true := by simp [hst]
    rw [hr]
    have HS := hid hst; clear hst
    go_enter Tryd.func91, Tryd.ntmps91
    go_wp2_with fail
    go_quiet ((first | (go_at_call 87; exact quietC Stamp_any) | (go_at_call 58; exact quietC (Has_any HF.out HB.out))))
    go_wp2
    go_ret
    exact ⟨rfl, (Same.refl _ w).drewN _⟩

/-- Two accesses of a disk in block b: bytes are appended; and synced. -/
theorem disk_any {b : Nat} {dv : Value} {data : List UInt8} {K : Bool → d.σ → Prop} (hI : d.Inv M s w)
    (hb : w.heap[b]? = some (.cells #[.int .i64 5, .int .i64 0, .int .u64 0, .int .u64 0, dv, .slice none 0 0, .int .i64 6, .int .i64 0, .int .u64 0, .int .u64 0, .slice none 0 0, .slice none 0 0] 73 (0, 0)))
    (hbD : b ∉ d.D) (hdv : Bytes M w dv data) (h : d.wp (diskP [{ kind := 5, data := data }, { kind := 6 }]) s K S)
    (hok : ∀ x s' w', Same d.D w w' → d.Inv M s' w' → K x s' → Q (.returned (.bool x)) w') (hstop : d.Stops d.D M w S Q) :
    Calls Tryd.prog 89 #[d.val, .slice (some ⟨b, 0, none⟩) 2 2] w Q := by
  have he := d.enter
  obtain ⟨da, dl, dc, rfl⟩ := hdv.form
  have hkeep : ∀ w', Same d.D w w' → w'.heap[b]? = w.heap[b]? := fun w' hs => hs.block b (lt_of_some hb) hbD
  obtain ⟨k0, k1, k2, k3, k4, k5, k6, k7, k8, k9, k10, k11⟩ := cells12 hb
  unfold DoSem.val
  go_enter Tryd.func89, Tryd.ntmps89
  go_wp2_with fail
  refine wp_loop_rounds 3 ?_
  rw [rounds_succ]
  have Hb := hid hb; clear hb
  go_wp2_with fail
  have hs1 := (Same.refl [] w).alloc (.cells #[.int .i64 5, .int .i64 0, .int .u64 0, .int .u64 0, .slice da dl dc, .slice none 0 0] 73)
  refine d.call_wp (a := { kind := 5, data := data }) (d.keep hI hs1) ⟨_, _, rfl, hdv.same hs1 (by simp), U64s.nil _ _, W64_zero, W64_zero, (by decide : 5 ≤ 13)⟩ h ?_ (fun _ _ _ _ hs hI ha hS => ⟨rfl, hstop.keep hs1 _ _ _ _ hs hI ha hS⟩)
  rintro w2 rv r1 s2 hs2 hI2 ⟨bv, rfl, _, _⟩ hK
  have HK := hid hK; clear hK h k0 k1 k2 k3 k4 k5 k6 k7 k8 k9 k10 k11
  have h02 := (hs1.mono (D' := d.D) (by simp)).then hs2
  have Hh := hid h02; clear h02
  cases hf : r1.fail with
  | true =>
    go_wp2_with fail
    exact hok _ _ _ Hh.out hI2 (d.wp_ret (by simpa [hf, Prog.bind] using HK.out))
  | false =>
    have HK2 : Hid (d.wp (diskP [{ kind := 6 }]) s2 K S) := hid (by simpa [hf, Prog.bind] using HK.out)
    clear HK
    go_wp2_with fail
    rw [rounds_succ]
    obtain ⟨k0, k1, k2, k3, k4, k5, k6, k7, k8, k9, k10, k11⟩ := cells12 ((hkeep _ Hh.out).trans Hb.out)
    go_wp2_with fail
    have hs3 := (Same.refl [] w2).alloc (.cells #[.int .i64 6, .int .i64 0, .int .u64 0, .int .u64 0, .slice none 0 0, .slice none 0 0] 73)
    refine d.call_wp (a := { kind := 6 }) (d.keep hI2 hs3) ⟨_, _, rfl, Bytes.nil _ _, U64s.nil _ _, W64_zero, W64_zero, by decide⟩ HK2.out ?_ (fun _ _ _ _ hs hI ha hS => ⟨rfl, (hstop.at Hh.out).keep hs3 _ _ _ _ hs hI ha hS⟩)
    rintro w4 rv r2 s4 hs4 hI4 ⟨bv', rfl, _, _⟩ hK
    have HK := hid hK; clear hK k0 k1 k2 k3 k4 k5 k6 k7 k8 k9 k10 k11
    have h04 := (Hh.out.thenKeep hs3).then hs4
    cases hf2 : r2.fail with
    | true =>
      go_wp2_with fail
      exact hok _ _ _ h04 hI4 (d.wp_ret (by simpa [hf2, Prog.bind] using HK.out))
    | false =>
      have HK3 : Hid (K true s4) := hid (d.wp_ret (by simpa [hf2, Prog.bind, diskP] using HK.out))
      clear HK
      go_wp2_with fail
      rw [rounds_succ]
      go_wp2_with fail
      exact hok _ _ _ h04 hI4 HK3.out
end

end Go.Proofs.YtdfeinfaljidgaaDoor
