/- The contracts of a new memory, a new disk, a new world. -/
import Derived.Test.YtdfeinfaljidgaaDoorRef
import Derived.Test.YtdfeinfaljidgaaDoorGrow
import Derived.Test.YtdfeinfaljidgaaDoorNewPlain
import Derived.Deep.LoopGhost
import Derived.Laws.MakeOwn
import Derived.Deep.RegionHeld2
namespace Go.Proofs.YtdfeinfaljidgaaDoor
open Go Go.RowKit

def u64L (xs : List Nat) : List Value := xs.map fun n : Nat => Value.int .u64 n
theorem madeCells_u64 (n : Nat) : madeCells #[.int .u64 0] n = (u64L (List.replicate n 0)).toArray := by
  unfold madeCells u64L
  apply Array.ext
  · simp
  · intro i h1 h2
    simp [Nat.mod_one]
theorem make_words {n : Nat} {m : Int} (hm : m = n) (hn : n ≤ 100000000) (w : World) : (Instr.makeSlice 24 (.int .i64 m) (.int .i64 m)).run Tryd.prog w = .ok (.slice (some ⟨w.heap.size, 0, none⟩) n n) (w.alloc (.cells (u64L (List.replicate n 0)).toArray 27)) := by
  subst hm
  obtain ⟨i, hi, hz0, hz1, hz2⟩ := info_parts info_words
  have h := run_make (P := Tryd.prog) w 24 27 i _ und_words hi hz0 .i64 .i64 n n (by omega) (Int.le_refl _) (by rw [hz2]; omega) (by omega)
  rw [h, hz1]
  simp only [Int.toNat_natCast, Nat.mul_one]
  rw [show (Value.int .u64 0).cells = #[.int .u64 0] from rfl, madeCells_u64]
theorem cell_u64 {w : World} {b : Nat} {xs : List Nat} {e : TypeId} (h : w.heap[b]? = some (.cells (u64L xs).toArray e (0, 0))) {i v : Nat} (hi : xs[i]? = some v) : w.cell? ⟨b, i, none⟩ = some (.int .u64 v) :=
  cell_of_block h (by simp [u64L, hi])
theorem u64_setIf (xs : List Nat) (i v : Nat) : (u64L xs).toArray.setIfInBounds i (.int .u64 v) = (u64L (xs.set i v)).toArray := by simp [u64L]
theorem u64_at {xs : List Nat} {i v : Nat} (h : xs[i]? = some v) : (u64L xs).toArray[i]? = some (.int .u64 v) := by simp [u64L, h]
theorem set_u64 {w : World} {b : Nat} {xs : List Nat} {e : TypeId} (h : w.heap[b]? = some (.cells (u64L xs).toArray e (0, 0))) (i v : Nat) : (w.setCell ⟨b, i, none⟩ (.int .u64 v)).heap[b]? = some (.cells (u64L (xs.set i v)).toArray e (0, 0)) := by
  rw [block_set h]
  simp [u64L]

set_option maxRecDepth 100000 in
theorem RMemNew_any {w : World} {t c : Nat} (ht1 : 1 ≤ t) (ht : t ≤ 64) (hc : c ≤ 65536) :
    Calls Tryd.prog 23 #[.int .i64 t, .int .i64 c] w fun e w' => ∃ b, e = .returned (.tuple #[.agg #[.int .i64 t, .int .i64 c, .slice (some ⟨b, 0, none⟩) (8 + t + 8 * c) (8 + t + 8 * c)], .int .i64 0]) ∧ Same [] w w' ∧ w.heap.size ≤ b ∧
      w'.heap[b]? = some (.cells (u64L (newWords t c)).toArray 27 (0, 0)) := by
  have hmk := make_words (n := 8 + t + 8 * c) (m := 8 + (t : Int) + 8 * (c : Int)) (by omega) (by omega)
  by_cases h0 : c = 0
  · have g0 : ¬ 0 < c := by omega
    have H0 := hid h0; clear h0
    go_enter Tryd.func23, Tryd.ntmps23
    go_wp2_with fail
    refine wp_loop_rounds 1 ?_
    rw [rounds_succ]
    have g1 : ¬ 1 < c := by have := H0.out; omega
    go_wp2_with fail
    refine post_gen fun W hW => ?_
    have b0 : W.heap[w.heap.size]? = some (.cells #[.int .i64 t, .int .i64 c, .slice (some ⟨w.heap.size + 1, 0, none⟩) (8 + t + 8 * c) (8 + t + 8 * c)] 26 (0, 0)) := by rw [hW]; exact block_old (block_old (block_at (by simp)))
    have b1 : W.heap[w.heap.size + 1]? = some (.cells (u64L (List.replicate (8 + t + 8 * c) 0)).toArray 27 (0, 0)) := by rw [hW]; exact block_old (block_at (by simp))
    have hs : Same [] w W := by rw [hW]; (repeat refine Same.alloc ?_ _); exact Same.refl _ _
    clear hW
    obtain ⟨x0, x1, x2⟩ := cells3 b0
    refine bodyPost_ret (v := .tuple #[.agg #[.int .i64 t, .int .i64 c, .slice (some ⟨w.heap.size + 1, 0, none⟩) (8 + t + 8 * c) (8 + t + 8 * c)], .int .i64 0]) (by simp [results, Tryd.results23, go_sem, x0, x1, x2]) rfl ?_
    refine ⟨w.heap.size + 1, rfl, hs, by omega, b1.trans ?_⟩
    rw [H0.out, newUpto_zero, ← newUpto_end]
    rfl
  · have g0 : 0 < c := by omega
    have H0 := hid h0; clear h0
    have g2 : 1 < 8 + t + 8 * c := by omega
    obtain ⟨A, hA⟩ : ∃ A, A = (u64L (List.replicate (8 + t + 8 * c) 0)).toArray := ⟨_, rfl⟩
    rw [← hA] at hmk
    have h1 : A[1]? = some (.int .u64 0) := by rw [hA]; exact u64_at (by rw [List.getElem?_replicate, if_pos g2])
    have HA := hid hA; clear hA
    go_enter Tryd.func23, Tryd.ntmps23
    go_wp2_with fail
    refine wp_gen fun W hW => ?_
    have hs : Same [] w W := by rw [hW]; (repeat refine Same.alloc ?_ _); exact Same.refl _ _
    have b0 : W.heap[w.heap.size]? = some (.cells #[.int .i64 0, .int .i64 0, .slice none 0 0] 26 (0, 0)) := by rw [hW]; exact block_old (block_old (block_at (by simp)))
    have b1 : W.heap[w.heap.size + 1]? = some (.cells (u64L (newUpto t c 1)).toArray 27 (0, 0)) := by
      rw [hW, ← newUpto_one (by have := H0.out; omega)]
      refine block_old ((block_at (by simp)).trans ?_)
      rw [HA.out]
      exact congrArg (fun a => some (Obj.cells a 27 (0, 0))) (u64_setIf _ 1 1)
    have b2 : W.heap[w.heap.size + 1 + 1]? = some (.cells #[.int .i64 t, .int .i64 c, .slice (some ⟨w.heap.size + 1, 0, none⟩) (8 + t + 8 * c) (8 + t + 8 * c)] 26 (0, 0)) := by rw [hW]; exact block_at (by simp)
    have HS := hid hs; have HB0 := hid b0; have HB1 := hid b1; have HB2 := hid b2
    clear hW hs b0 b1 b2
    go_loopg [7] (c + 1) (fun g iv wr => ∃ i : Nat, 1 ≤ i ∧ i ≤ c ∧ i + g = c + 2 ∧ iv = .int .i64 i ∧ Same [w.heap.size + 1] W wr ∧ wr.heap[w.heap.size + 1]? = some (.cells (u64L (newUpto t c i)).toArray 27 (0, 0)))
    case atStart => exact ⟨1, by omega, by have := H0.out; omega, by omega, rfl, Same.refl _ _, HB1.out⟩
    case round =>
      obtain ⟨i, hi1, hic, hig, rfl, hs1, hb1⟩ := hrel
      have HIG := hid hig; have HS1 := hid hs1; have HB := hid hb1
      clear hig hs1 hb1
      have c0 := (HS1.out.block _ (lt_of_some HB0.out) (by simp)).trans HB0.out
      have c2 := (HS1.out.block _ (lt_of_some HB2.out) (by simp)).trans HB2.out
      obtain ⟨x0, x1, x2⟩ := cells3 c2
      by_cases hlt : i < c
      · have HL := hid hlt; clear hlt
        have glt : i < c := HL.out
        have gf : field t i 7 < 8 + t + 8 * c := by have := HL.out; unfold field; omega
        have y0 : wr.cell? ⟨w.heap.size + 1, field t i 7, none⟩ = some (.int .u64 (newAt t c i (field t i 7))) := cell_u64 HB.out (newUpto_at gf)
        have y1 : wr.frozen? ⟨w.heap.size + 1, field t i 7, none⟩ = false := frozen_of_block HB.out
        have C2 := hid c2; clear c0 c2
        go_wp2_with fail
        go_region_with (go_at_call 10; refine (RField_any (f := 7) ht hi1 (by omega) (by omega)).mono ?_; rintro e w' ⟨rfl, rfl⟩)
        all_goals go_wp2_with fail
        all_goals go_roundg (gk - 1)
        all_goals first
          | (have := HIG.out; have := HL.out; omega)
          | (refine ⟨i + 1, by omega, by have := HL.out; omega, by have := HIG.out; have := HL.out; omega, by simp, (HS1.out.set (.inl (by simp))).drew, ?_⟩
             rw [← newUpto_step hi1 HL.out]
             exact set_u64 HB.out (field t i 7) (i + 1))
      · have glt : ¬ i < c := hlt
        have H9 : Hid (i = c) := hid (by omega)
        clear hlt hic
        have f0 := fun o => frozen_of_block (o := o) c0
        obtain ⟨z0, z1, z2⟩ := cells3 c0
        have C0 := hid c0
        clear c0 c2
        go_wp2_with fail
        refine post_gen fun W6 hW6 => ?_
        have d0 : W6.heap[w.heap.size]? = some (.cells #[.int .i64 t, .int .i64 c, .slice (some ⟨w.heap.size + 1, 0, none⟩) (8 + t + 8 * c) (8 + t + 8 * c)] 26 (0, 0)) := by rw [hW6]; simp [set_at, C0.out]
        have d1 : W6.heap[w.heap.size + 1]? = some (.cells (u64L (newWords t c)).toArray 27 (0, 0)) := by
          rw [hW6]
          simp only [block_set_other (show ¬ w.heap.size + 1 = w.heap.size from by omega)]
          rw [HB.out, H9.out]
          rfl
        have hs6 : Same [w.heap.size, w.heap.size + 1] W W6 := by
          rw [hW6]
          (repeat refine Same.set ?_ (.inl (by simp)))
          exact HS1.out.mono (by simp)
        clear hW6 z0 z1 z2 f0 x0 x1 x2
        obtain ⟨x0, x1, x2⟩ := cells3 d0
        refine bodyPost_ret (v := .tuple #[.agg #[.int .i64 t, .int .i64 c, .slice (some ⟨w.heap.size + 1, 0, none⟩) (8 + t + 8 * c) (8 + t + 8 * c)], .int .i64 0]) (by simp [results, Tryd.results23, go_sem, x0, x1, x2]) rfl ?_
        exact ⟨w.heap.size + 1, rfl, HS.out.trans hs6 (fun x hx => by simp at hx; omega), by omega, d1⟩

def zeroStrs (n : Nat) : List Value := strCells (List.replicate n (({}, .slice none 0 0) : StreamM × Value))
theorem zeroStrs_length (n : Nat) : (zeroStrs n).length = n * 2 := by
  unfold zeroStrs strCells
  induction n with
  | zero => rfl
  | succ n ih => rw [List.replicate_succ, List.flatMap_cons, List.length_append, ih]; simp; omega
theorem zeroStrs_at (n : Nat) : ∀ i, i < n * 2 → (zeroStrs n)[i]? = some (if i % 2 = 0 then .slice none 0 0 else .int .i64 0) := by
  induction n with
  | zero => intro i hi; omega
  | succ n ih =>
    intro i hi
    have e : zeroStrs (n + 1) = [.slice none 0 0, .int .i64 0] ++ zeroStrs n := by unfold zeroStrs strCells; rw [List.replicate_succ, List.flatMap_cons]
    rw [e]
    match i with
    | 0 => rfl
    | 1 => rfl
    | i + 2 =>
      rw [List.getElem?_append_right (by simp), show i + 2 - [Value.slice none 0 0, Value.int .i64 0].length = i from by simp, ih i (by omega), show (i + 2) % 2 = i % 2 from by omega]
theorem madeCells_strs (n : Nat) : madeCells #[.slice none 0 0, .int .i64 0] (n * 2) = (zeroStrs n).toArray := by
  apply Array.ext
  · simp [madeCells, zeroStrs_length]
  · intro i h1 h2
    have h3 : i < n * 2 := by simpa [madeCells] using h1
    have h4 := zeroStrs_at n i h3
    rw [List.getElem?_eq_getElem (by rw [zeroStrs_length]; exact h3)] at h4
    refine Eq.trans ?_ (Option.some.inj h4).symm
    show (madeCells #[Value.slice none 0 0, Value.int IntKind.i64 0] (n * 2))[i] = _
    simp only [madeCells, Array.getElem_map, Array.getElem_range]
    obtain h | h : i % 2 = 0 ∨ i % 2 = 1 := by omega
    · simp [h]
    · simp [h]
theorem make_strs {n : Nat} (hn : n ≤ 64) (w : World) : (Instr.makeSlice 28 (.int .i64 n) (.int .i64 n)).run Tryd.prog w = .ok (.slice (some ⟨w.heap.size, 0, none⟩) n n) (w.alloc (.cells (zeroStrs n).toArray 130)) := by
  obtain ⟨i, hi, hz0, hz1, hz2⟩ := info_parts info_streams
  have h := run_make (P := Tryd.prog) w 28 130 i _ und_streams hi hz0 .i64 .i64 n n (by omega) (Int.le_refl _) (by rw [hz2]; omega) (by omega)
  rw [h, hz1]
  simp only [Int.toNat_natCast]
  rw [show (Value.agg #[.slice none 0 0, .int .i64 0]).cells = #[.slice none 0 0, .int .i64 0] from rfl, madeCells_strs]
theorem rstrs_new {w' : World} {M : List Nat} {b n : Nat} (hM : b ∉ M) (hb : w'.heap[b]? = some (.cells (zeroStrs n).toArray 130 (0, 0))) (hn : n ≤ 64) : RStrs M w' (.slice (some ⟨b, 0, none⟩) n n) (List.replicate n {}) := by
  refine ⟨List.replicate n ({}, .slice none 0 0), by simp, ⟨_, _, _, rfl, zeroStrs_length n, Nat.le_refl _, by omega, .inr ⟨b, 0, rfl, hM, _, _, _, hb, fun i hi => ?_⟩⟩, fun p hp => ?_⟩
  · rw [Nat.zero_add]; simp [zeroStrs]
  · obtain ⟨_, rfl⟩ := List.mem_replicate.1 hp
    exact Bytes.nil _ _
theorem RDiskNew_any {w : World} {t : Nat} (ht1 : 1 ≤ t) (ht : t ≤ 64) :
    Calls Tryd.prog 24 #[.int .i64 t] w fun e w' => ∃ b0 b1, e = .returned (.tuple #[.agg #[.int .u64 0, .slice (some ⟨b0, 0, none⟩) t t, .slice (some ⟨b1, 0, none⟩) t t], .int .i64 0]) ∧ Same [] w w' ∧ w.heap.size ≤ b0 ∧ w.heap.size ≤ b1 ∧
      w'.heap[b0]? = some (.cells (zeroStrs t).toArray 130 (0, 0)) ∧ w'.heap[b1]? = some (.cells (zeroStrs t).toArray 130 (0, 0)) := by
  have hmk := make_strs ht
  go_enter Tryd.func24, Tryd.ntmps24
  go_wp2_with fail
  refine post_gen fun W hW => ?_
  have b0 : W.heap[w.heap.size]? = some (.cells #[.int .u64 0, .slice (some ⟨w.heap.size + 1 + 1, 0, none⟩) t t, .slice (some ⟨w.heap.size + 1 + 1 + 1, 0, none⟩) t t] 31 (0, 0)) := by rw [hW]; exact block_old (block_old (block_old (block_at (by simp))))
  have b1 : W.heap[w.heap.size + 1 + 1]? = some (.cells (zeroStrs t).toArray 130 (0, 0)) := by rw [hW]; exact block_old (block_at (by simp))
  have b2 : W.heap[w.heap.size + 1 + 1 + 1]? = some (.cells (zeroStrs t).toArray 130 (0, 0)) := by rw [hW]; exact block_at (by simp)
  have hs : Same [] w W := by rw [hW]; (repeat refine Same.alloc ?_ _); exact Same.refl _ _
  clear hW
  obtain ⟨x0, x1, x2⟩ := cells3 b0
  refine bodyPost_ret (v := .tuple #[.agg #[.int .u64 0, .slice (some ⟨w.heap.size + 1 + 1, 0, none⟩) t t, .slice (some ⟨w.heap.size + 1 + 1 + 1, 0, none⟩) t t], .int .i64 0]) (by simp [results, Tryd.results24, go_sem, x0, x1, x2]) rfl ?_
  exact ⟨_, _, rfl, hs, by omega, by omega, b1, b2⟩

set_option maxRecDepth 100000 in
/-- A new world: its words can be written, and lie apart. -/
theorem RNew_any {w : World} {t c : Nat} (ht1 : 1 ≤ t) (ht : t ≤ 64) (hc : c ≤ 65536) :
    Calls Tryd.prog 8 #[.int .i64 t, .int .i64 c] w fun e w' => ∃ b b0 b1, e = .returned (.agg #[.int .i64 t, .int .i64 c, .slice (some ⟨b, 0, none⟩) (8 + t + 8 * c) (8 + t + 8 * c), .int .u64 0, .slice (some ⟨b0, 0, none⟩) t t, .slice (some ⟨b1, 0, none⟩) t t]) ∧ Same [] w w' ∧
      w.heap.size ≤ b ∧ b < b0 ∧ b < b1 ∧ w'.heap[b]? = some (.cells (u64L (newWords t c)).toArray 27 (0, 0)) ∧ w'.heap[b0]? = some (.cells (zeroStrs t).toArray 130 (0, 0)) ∧ w'.heap[b1]? = some (.cells (zeroStrs t).toArray 130 (0, 0)) := by
  go_enter Tryd.func8, Tryd.ntmps8
  go_wp2_with fail
  refine calls_gen fun W hW => ?_
  have hs : Same [] w W := by rw [hW]; (repeat refine Same.alloc ?_ _); exact Same.refl _ _
  have b0 : W.heap[w.heap.size]? = some (.cells #[.int .i64 0, .int .i64 0, .slice none 0 0, .int .u64 0, .slice none 0 0, .slice none 0 0] 33 (0, 0)) := by rw [hW]; exact block_at (by simp)
  clear hW
  refine (RMemNew_any ht1 ht hc).mono ?_
  rintro _ w1 ⟨b, rfl, hs1, hb, hw1⟩
  have HS := hid (hs.then hs1); have HW := hid hw1; have HB0 := hid ((hs1.block _ (lt_of_some b0) (by simp)).trans b0); have HB := hid (Nat.lt_of_lt_of_le (lt_of_some b0) hb)
  clear hs hs1 hw1 hb
  clear b0
  go_wp2_with fail
  refine calls_gen fun W2 hW2 => ?_
  have hs2 : Same [] w1 W2 := by rw [hW2]; (repeat refine Same.alloc ?_ _); exact Same.refl _ _
  have b2 : W2.heap[w1.heap.size]? = some (.cells #[.int .i64 t, .int .i64 c, .slice (some ⟨b, 0, none⟩) (8 + t + 8 * c) (8 + t + 8 * c)] 26 (0, 0)) := by rw [hW2]; exact block_at (by simp)
  clear hW2
  refine (RDiskNew_any ht1 ht).mono ?_
  rintro _ w3 ⟨c0, c1, rfl, hs3, hc0, hc1, hb0, hb1⟩
  have hs23 := hs2.then hs3
  have d0 := (hs23.block _ (lt_of_some HB0.out) (by simp)).trans HB0.out
  have d2 := (hs3.block _ (lt_of_some b2) (by simp)).trans b2
  have dw := (hs23.block _ (lt_of_some HW.out) (by simp)).trans HW.out
  obtain ⟨x0, x1, x2, x3, x4, x5⟩ := cells6 d0
  obtain ⟨y0, y1, y2⟩ := cells3 d2
  have f0 := fun o => frozen_of_block (o := o) d0
  have hlt : b < w1.heap.size := lt_of_some HW.out
  have hlt0 : w.heap.size < w1.heap.size := lt_of_some HB0.out
  have HC := hid (And.intro (Nat.lt_of_lt_of_le (Nat.lt_of_lt_of_le hlt hs2.size) hc0) (Nat.lt_of_lt_of_le (Nat.lt_of_lt_of_le hlt hs2.size) hc1))
  have HS3 := hid (HS.out.then hs23); have HB1 := hid hb0; have HB2 := hid hb1; have D0 := hid d0; have DW := hid dw
  have l3 : w.heap.size < w3.heap.size := lt_of_some d0
  have l4 : w1.heap.size < w3.heap.size := lt_of_some d2
  clear hs2 hs3 hs23 hc0 hc1 hb0 hb1 d0 d2 dw b2
  go_wp2_with fail
  refine post_gen fun W6 hW6 => ?_
  have hbb := HB.out
  have hcc := HC.out
  have hs6 : Same [w.heap.size] w3 W6 := by rw [hW6]; (repeat (with_reducible first | refine Same.alloc ?_ _ | refine Same.set ?_ (.inl (by simp)))); exact Same.refl _ _
  have e0 : W6.heap[w.heap.size]? = some (.cells #[.int .i64 t, .int .i64 c, .slice (some ⟨b, 0, none⟩) (8 + t + 8 * c) (8 + t + 8 * c), .int .u64 0, .slice (some ⟨c0, 0, none⟩) t t, .slice (some ⟨c1, 0, none⟩) t t] 33 (0, 0)) := by
    rw [hW6]
    refine block_old ?_
    simp [set_at, D0.out]
  clear hW6 x0 x1 x2 x3 x4 x5 y0 y1 y2 f0
  obtain ⟨x0, x1, x2, x3, x4, x5⟩ := cells6 e0
  refine bodyPost_ret (v := .agg #[.int .i64 t, .int .i64 c, .slice (some ⟨b, 0, none⟩) (8 + t + 8 * c) (8 + t + 8 * c), .int .u64 0, .slice (some ⟨c0, 0, none⟩) t t, .slice (some ⟨c1, 0, none⟩) t t]) (by simp [results, Tryd.results8, go_sem, x0, x1, x2, x3, x4, x5]) rfl ?_
  exact ⟨b, c0, c1, rfl, HS3.out.trans hs6 (fun x hx => .inr (by simp at hx; omega)), by omega, hcc.1, hcc.2, (hs6.block _ (lt_of_some DW.out) (by simp; omega)).trans DW.out, (hs6.block _ (lt_of_some HB1.out) (by simp; omega)).trans HB1.out, (hs6.block _ (lt_of_some HB2.out) (by simp; omega)).trans HB2.out⟩
end Go.Proofs.YtdfeinfaljidgaaDoor
