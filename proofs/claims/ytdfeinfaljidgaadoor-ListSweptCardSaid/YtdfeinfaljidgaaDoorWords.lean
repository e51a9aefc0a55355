/- access.words: an access of a word. -/
import Derived.Test.YtdfeinfaljidgaaDoorApp
import Derived.Test.YtdfeinfaljidgaaDoorWorlds
import Derived.Test.YtdfeinfaljidgaaDoorPure
import Derived.WalkSpells
import Derived.Laws.EntriesVeiled
namespace Go.Proofs.YtdfeinfaljidgaaDoor
open Go Go.RowKit

section
variable {w : World} {old a b : Nat} {kv ce da wa : Value}

theorem turn0 : Calls Tryd.prog 79 #[.int .u64 old, .agg #[kv, ce, .int .u64 a, .int .u64 b, da, wa]] w fun e w' => e = .returned (.tuple #[.int .u64 old, .int .u64 old]) ∧ Same [] w w' := by
  go_enter Tryd.func79, Tryd.ntmps79
  go_wp2_with fail
  go_ret2
  exact ⟨rfl, (Same.refl [] w).alloc _⟩
theorem turn1 : Calls Tryd.prog 80 #[.int .u64 old, .agg #[kv, ce, .int .u64 a, .int .u64 b, da, wa]] w fun e w' => e = .returned (.tuple #[.int .u64 0, .int .u64 a]) ∧ Same [] w w' := by
  go_enter Tryd.func80, Tryd.ntmps80
  go_wp2_with fail
  go_region
  all_goals (try go_wp2)
  all_goals go_ret2
  all_goals exact ⟨rfl, ((Same.refl [] w).alloc _).drew⟩
theorem turn2 : Calls Tryd.prog 81 #[.int .u64 old, .agg #[kv, ce, .int .u64 a, .int .u64 b, da, wa]] w fun e w' => e = .returned (.tuple #[.int .u64 (if old = a then 1 else 0 : Nat), .int .u64 (if old = a then b else old : Nat)]) ∧ Same [] w w' := by
  by_cases h : old = a
  · have g : ((old : Int) == (a : Int)) = true := by simpa using congrArg Int.ofNat h
    rw [if_pos h, if_pos h]
    clear h
    go_enter Tryd.func81, Tryd.ntmps81
    go_wp2_with fail
    go_region
    all_goals (try go_wp2)
    all_goals go_ret2
    all_goals exact ⟨rfl, ((Same.refl [] w).alloc _).drew⟩
  · have g : ((old : Int) == (a : Int)) = false := by simp; omega
    rw [if_neg h, if_neg h]
    clear h
    go_enter Tryd.func81, Tryd.ntmps81
    go_wp2_with fail
    go_ret2
    exact ⟨rfl, (Same.refl [] w).alloc _⟩
theorem turn3 : Calls Tryd.prog 82 #[.int .u64 old, .agg #[kv, ce, .int .u64 a, .int .u64 b, da, wa]] w fun e w' => e = .returned (.tuple #[.int .u64 old, .int .u64 ((old + a) % W64 : Nat)]) ∧ Same [] w w' := by
  go_enter Tryd.func82, Tryd.ntmps82
  go_wp2_with fail
  go_region
  all_goals (try go_wp2)
  all_goals go_ret2
  all_goals exact ⟨rfl, ((Same.refl [] w).alloc _).drew⟩
theorem turn4 : Calls Tryd.prog 83 #[.int .u64 old, .agg #[kv, ce, .int .u64 a, .int .u64 b, da, wa]] w fun e w' => e = .returned (.tuple #[.int .u64 old, .int .u64 a]) ∧ Same [] w w' := by
  go_enter Tryd.func83, Tryd.ntmps83
  go_wp2_with fail
  go_region
  all_goals (try go_wp2)
  all_goals go_ret2
  all_goals exact ⟨rfl, ((Same.refl [] w).alloc _).drew⟩
end
theorem turns_any {w : World} : Calls Tryd.prog 67 #[] w fun e w' => e = .returned (.slice (some ⟨w.heap.size, 0, none⟩) 5 5) ∧ w' = w.alloc (.cells #[.int .i64 0, .func (.func 79) #[] #[], .int .i64 1, .func (.func 80) #[] #[], .int .i64 2, .func (.func 81) #[] #[], .int .i64 3, .func (.func 82) #[] #[], .int .i64 4, .func (.func 83) #[] #[]] 126) := by
  go_enter Tryd.func67, Tryd.ntmps67
  go_wp2_with fail
  go_ret
  exact ⟨rfl, rfl⟩

theorem words_out {w : World} {T C : Int} {wv : Value} {xs : List Nat} {M : List Nat} {kv av bv da wa : Value} {i : Int} (h : U64s M w wv xs) (hi : ¬ (0 ≤ i ∧ i < xs.length)) :
    Calls Tryd.prog 51 #[.agg #[.int .i64 T, .int .i64 C, wv], .agg #[kv, .int .i64 i, av, bv, da, wa]] w fun e w' => e = .returned (.tuple #[.agg #[.int .i64 T, .int .i64 C, wv], .agg #[.int .u64 0, .slice none 0 0, .bool false]]) ∧ Same [] w w' := by
  obtain ⟨⟨a, l, c, rfl, hl, _⟩, _⟩ := h
  obtain rfl : l = xs.length := by simpa using hl.symm
  by_cases h0 : i < 0
  · have g1 : decide (i < 0) = true := by simpa using h0
    clear hi h0
    go_enter Tryd.func51, Tryd.ntmps51
    go_wp2_with fail
    refine bodyPost_ret (v := .tuple #[.agg #[.int .i64 T, .int .i64 C, .slice a xs.length c], .agg #[.int .u64 0, .slice none 0 0, .bool false]]) (by simp [results, Tryd.results51, go_sem]) rfl ⟨rfl, ?_⟩
    exact ((((Same.refl [] w).alloc _).alloc _).alloc _).alloc _
  · have g1 : decide (i < 0) = false := by simpa using h0
    have g2 : decide ((xs.length : Int) ≤ i) = true := by simp only [decide_eq_true_eq]; omega
    clear hi h0
    go_enter Tryd.func51, Tryd.ntmps51
    go_wp2_with fail
    refine bodyPost_ret (v := .tuple #[.agg #[.int .i64 T, .int .i64 C, .slice a xs.length c], .agg #[.int .u64 0, .slice none 0 0, .bool false]]) (by simp [results, Tryd.results51, go_sem]) rfl ⟨rfl, ?_⟩
    exact ((((Same.refl [] w).alloc _).alloc _).alloc _).alloc _


theorem set_same {xs : List Nat} {i old : Nat} (h : xs[i]? = some old) : xs.set i old = xs := by
  apply List.ext_getElem?
  intro j
  rw [List.getElem?_set]
  split
  · rename_i e; subst e; rw [h]; simp [(List.getElem?_eq_some_iff.1 h).1]
  · rfl
theorem cloned {M : List Nat} {w : World} {b c i n : Nat} {xs : List Nat} {more : Array Value} {W : World} (hb : w.heap[b]? = some (.cells ((xs.map fun n : Nat => Value.int .u64 n).toArray ++ more) 27 (0, 0))) (hW : W.heap[b]? = (w.setCell ⟨b, i, none⟩ (.int .u64 n)).heap[b]?) (hbM : b ∉ M) (hc : xs.length ≤ c) (hl : xs.length ≤ 1000000000) (hx : ∀ x, x ∈ xs → x < W64) (hi : i < xs.length) (hn : n < W64) :
    U64s M W (.slice (some ⟨b, 0, none⟩) xs.length c) (xs.set i n) := by
  refine ⟨⟨_, _, _, rfl, by simp, hc, by omega, .inr ⟨b, 0, rfl, hbM, _, _, _, hW.trans (block_set hb), fun j hj => ?_⟩⟩, fun x hm => ?_, fun k hk => ?_⟩
  · simp only [List.length_map, List.length_set] at hj
    rw [Nat.zero_add, Array.getElem?_setIfInBounds]
    split
    · rename_i e; subst e; simp [hj]; omega
    · rename_i e; rw [Array.getElem?_append_left (by simpa using hj)]; simp [e]
  · rcases List.mem_or_eq_of_mem_set hm with h | h
    · exact hx x h
    · exact h ▸ hn
  · simp only [ownL_slice, List.mem_singleton] at hk
    subst hk
    exact ⟨_, _, hW.trans (block_set hb)⟩

theorem words_in0 {w : World} {T C : Int} {xs : List Nat} {M : List Nat} {b off c : Nat} {da wa : Value} {i x y old : Nat} (h : U64s M w (.slice (some ⟨b, off, none⟩) xs.length c) xs) (hM : ∀ k, k ∈ M → k < w.heap.size) (hi : xs[i]? = some old) (hsm : xs.length ≤ 1000000000) (_hx : x < W64) (_hy : y < W64) :
    Calls Tryd.prog 51 #[.agg #[.int .i64 T, .int .i64 C, .slice (some ⟨b, off, none⟩) xs.length c], .agg #[.int .i64 0, .int .i64 i, .int .u64 x, .int .u64 y, da, wa]] w fun e w' => ∃ wv, e = .returned (.tuple #[.agg #[.int .i64 T, .int .i64 C, wv], .agg #[.int .u64 old, .slice none 0 0, .bool false]]) ∧ Same [] w w' ∧ U64s M w' wv (xs.set i old) := by
  have hil := (List.getElem?_eq_some_iff.1 hi).1
  have hc := h.1.cells_at i (.int .u64 old) (by simp [hi])
  rw [Addr.add_lit] at hc
  have hb : b < w.heap.size := World.block_lt_of_cell? w _ hc
  have hb1 : b < w.heap.size + 1 := by omega
  have hb2 : b < w.heap.size + 1 + 1 := by omega
  have hb3 : b < w.heap.size + 1 + 1 + 1 := by omega
  have HC := hid hc; have H := hid h; have HM := hid hM; have HI := hid hi; have HX := hid _hx; have HY := hid _hy; have HS := hid hsm
  have hold : old < W64 := h.2 old (List.mem_of_getElem? hi)
  have HOLD := hid hold
  skip
  clear hc h hM hi _hx _hy hold hsm
  have g1 : decide ((i : Int) < 0) = false := by simp only [decide_eq_false_iff_not]; omega
  have g2 : ¬ xs.length ≤ i := by omega
  have g3 : (0 : Int) ≤ i ∧ (i : Int) < xs.length := by omega
  have hc1 : w.cell? ⟨b, off + i, none⟩ = some (.int .u64 old) := HC.out
  go_enter Tryd.func51, Tryd.ntmps51
  go_wp2_with fail
  refine turns_any.mono ?_
  rintro _ _ ⟨rfl, rfl⟩
  go_wp2_with fail
  refine wp_loop_rounds 1 ?_
  rw [rounds_succ]
  go_wp2_with fail
  refine calls_gen fun W hW => ?_
  have hsame : Same [] w W := by rw [hW]; (repeat refine Same.alloc ?_ _); exact Same.refl _ _
  have b0 : W.heap[w.heap.size]? = some (.cells #[.int .i64 T, .int .i64 C, .slice (some ⟨b, off, none⟩) xs.length c] 26 (0, 0)) := by rw [hW]; repeat (first | exact block_at (by simp) | refine block_old ?_)
  have b1 : W.heap[w.heap.size + 1]? = some (.cells #[.int .i64 0, .int .i64 i, .int .u64 x, .int .u64 y, da, wa] 73 (0, 0)) := by rw [hW]; repeat (first | exact block_at (by simp) | refine block_old ?_)
  have b2 : W.heap[w.heap.size + 1 + 1]? = some (.cells #[.int .i64 0, .int .i64 0, .slice none 0 0] 26 (0, 0)) := by rw [hW]; repeat (first | exact block_at (by simp) | refine block_old ?_)
  have b3 : W.heap[w.heap.size + 1 + 1 + 1]? = some (.cells #[.int .u64 0, .slice none 0 0, .bool false] 77 (0, 0)) := by rw [hW]; repeat (first | exact block_at (by simp) | refine block_old ?_)
  clear hW
  refine turn0.mono ?_
  rintro _ w2 ⟨rfl, hs2⟩
  have c0 := (hs2.block _ (lt_of_some b0) (by simp)).trans b0
  have c1 := (hs2.block _ (lt_of_some b1) (by simp)).trans b1
  have c2 := (hs2.block _ (lt_of_some b2) (by simp)).trans b2
  have c3 := (hs2.block _ (lt_of_some b3) (by simp)).trans b3
  have hsz := hsame.size
  have HU : Hid (U64s (w.heap.size :: (w.heap.size + 1 + 1) :: (w.heap.size + 1 + 1 + 1) :: M) w2 (.slice (some ⟨b, off, none⟩) xs.length c) xs) := hid (((H.out.grow (M' := w.heap.size :: (w.heap.size + 1 + 1) :: (w.heap.size + 1 + 1 + 1) :: M) (fun z hz => by simp at hz; rcases hz with h | h | h | h <;> first | exact .inl h | (right; omega))).same hsame (by simp)).same hs2 (by simp))
  have HS2 := hid (hsame.then hs2)
  have l3 : w.heap.size + 1 + 1 + 1 < w2.heap.size := lt_of_some c3
  clear hs2 hsame b0 b1 b2 b3 hc1 hsz
  · have hn : old = old := rfl
    have g4 : ((old : Int) == (old : Int)) = true := by first | (rw [beq_iff_eq]; omega) | simp
    have f2 : ∀ o, w2.frozen? ⟨w.heap.size + 1 + 1, o, none⟩ = false := fun o => frozen_of_block c2
    have f3 : ∀ o, w2.frozen? ⟨w.heap.size + 1 + 1 + 1, o, none⟩ = false := fun o => frozen_of_block c3
    obtain ⟨m0, m1, m2⟩ := cells3 c0
    obtain ⟨a0, a1, a2⟩ := cells3 c2
    obtain ⟨r0, r1, r2⟩ := cells3 c3
    have C2 := hid c2; have C3 := hid c3
    clear c0 c1 c2 c3
    go_wp2_with fail
    refine post_gen fun W3 hW3 => ?_
    have k23 : ¬ w.heap.size + 1 + 1 = w.heap.size + 1 + 1 + 1 := by omega
    have k32 : ¬ w.heap.size + 1 + 1 + 1 = w.heap.size + 1 + 1 := by omega
    have e2 : W3.heap[w.heap.size + 1 + 1]? = some (.cells #[.int .i64 T, .int .i64 C, .slice (some ⟨b, off, none⟩) xs.length c] 26 (0, 0)) := by
      rw [hW3]; simp only [block_set_other k23]; simp [set_at, C2.out]
    have e3 : W3.heap[w.heap.size + 1 + 1 + 1]? = some (.cells #[.int .u64 old, .slice none 0 0, .bool false] 77 (0, 0)) := by
      rw [hW3]; simp [set_at, block_set_other k32, C3.out]
    have s3 : Same [w.heap.size + 1 + 1, w.heap.size + 1 + 1 + 1] w2 W3 := by rw [hW3]; (repeat refine Same.set ?_ (.inl (by simp))); exact Same.refl _ _
    clear hW3 a0 a1 a2 r0 r1 r2 f2 f3 m0 m1 m2
    obtain ⟨a0, a1, a2⟩ := cells3 e2
    obtain ⟨r0, r1, r2⟩ := cells3 e3
    refine bodyPost_ret (v := .tuple #[.agg #[.int .i64 T, .int .i64 C, .slice (some ⟨b, off, none⟩) xs.length c], .agg #[.int .u64 old, .slice none 0 0, .bool false]]) (by simp [results, Tryd.results51, go_sem, a0, a1, a2, r0, r1, r2]) rfl ?_
    refine ⟨_, rfl, HS2.out.trans s3 (fun z hz => .inr (by simp at hz; omega)), ?_⟩
    rw [show old = old by omega, set_same HI.out]
    exact (HU.out.same s3 (fun z hz => by simp at hz; rcases hz with h | h <;> simp [h])).grow (fun z hz => .inl (by simp [hz]))

theorem words_in1 {w : World} {T C : Int} {xs : List Nat} {M : List Nat} {b off c : Nat} {da wa : Value} {i x y old : Nat} (h : U64s M w (.slice (some ⟨b, off, none⟩) xs.length c) xs) (hM : ∀ k, k ∈ M → k < w.heap.size) (hi : xs[i]? = some old) (hsm : xs.length ≤ 1000000000) (_hx : x < W64) (_hy : y < W64) :
    Calls Tryd.prog 51 #[.agg #[.int .i64 T, .int .i64 C, .slice (some ⟨b, off, none⟩) xs.length c], .agg #[.int .i64 1, .int .i64 i, .int .u64 x, .int .u64 y, da, wa]] w fun e w' => ∃ wv, e = .returned (.tuple #[.agg #[.int .i64 T, .int .i64 C, wv], .agg #[.int .u64 0, .slice none 0 0, .bool false]]) ∧ Same [] w w' ∧ U64s M w' wv (xs.set i x) := by
  have hil := (List.getElem?_eq_some_iff.1 hi).1
  have hc := h.1.cells_at i (.int .u64 old) (by simp [hi])
  rw [Addr.add_lit] at hc
  have hb : b < w.heap.size := World.block_lt_of_cell? w _ hc
  have hb1 : b < w.heap.size + 1 := by omega
  have hb2 : b < w.heap.size + 1 + 1 := by omega
  have hb3 : b < w.heap.size + 1 + 1 + 1 := by omega
  have HC := hid hc; have H := hid h; have HM := hid hM; have HI := hid hi; have HX := hid _hx; have HY := hid _hy; have HS := hid hsm
  have hold : old < W64 := h.2 old (List.mem_of_getElem? hi)
  have HOLD := hid hold
  skip
  clear hc h hM hi _hx _hy hold hsm
  have g1 : decide ((i : Int) < 0) = false := by simp only [decide_eq_false_iff_not]; omega
  have g2 : ¬ xs.length ≤ i := by omega
  have g3 : (0 : Int) ≤ i ∧ (i : Int) < xs.length := by omega
  have hc1 : w.cell? ⟨b, off + i, none⟩ = some (.int .u64 old) := HC.out
  go_enter Tryd.func51, Tryd.ntmps51
  go_wp2_with fail
  refine turns_any.mono ?_
  rintro _ _ ⟨rfl, rfl⟩
  go_wp2_with fail
  refine wp_loop_rounds 2 ?_
  rw [rounds_succ]
  go_wp2_with fail
  rw [rounds_succ]
  go_wp2_with fail
  refine calls_gen fun W hW => ?_
  have hsame : Same [] w W := by rw [hW]; (repeat refine Same.alloc ?_ _); exact Same.refl _ _
  have b0 : W.heap[w.heap.size]? = some (.cells #[.int .i64 T, .int .i64 C, .slice (some ⟨b, off, none⟩) xs.length c] 26 (0, 0)) := by rw [hW]; repeat (first | exact block_at (by simp) | refine block_old ?_)
  have b1 : W.heap[w.heap.size + 1]? = some (.cells #[.int .i64 1, .int .i64 i, .int .u64 x, .int .u64 y, da, wa] 73 (0, 0)) := by rw [hW]; repeat (first | exact block_at (by simp) | refine block_old ?_)
  have b2 : W.heap[w.heap.size + 1 + 1]? = some (.cells #[.int .i64 0, .int .i64 0, .slice none 0 0] 26 (0, 0)) := by rw [hW]; repeat (first | exact block_at (by simp) | refine block_old ?_)
  have b3 : W.heap[w.heap.size + 1 + 1 + 1]? = some (.cells #[.int .u64 0, .slice none 0 0, .bool false] 77 (0, 0)) := by rw [hW]; repeat (first | exact block_at (by simp) | refine block_old ?_)
  clear hW
  refine turn1.mono ?_
  rintro _ w2 ⟨rfl, hs2⟩
  have c0 := (hs2.block _ (lt_of_some b0) (by simp)).trans b0
  have c1 := (hs2.block _ (lt_of_some b1) (by simp)).trans b1
  have c2 := (hs2.block _ (lt_of_some b2) (by simp)).trans b2
  have c3 := (hs2.block _ (lt_of_some b3) (by simp)).trans b3
  have hsz := hsame.size
  have HU : Hid (U64s (w.heap.size :: (w.heap.size + 1 + 1) :: (w.heap.size + 1 + 1 + 1) :: M) w2 (.slice (some ⟨b, off, none⟩) xs.length c) xs) := hid (((H.out.grow (M' := w.heap.size :: (w.heap.size + 1 + 1) :: (w.heap.size + 1 + 1 + 1) :: M) (fun z hz => by simp at hz; rcases hz with h | h | h | h <;> first | exact .inl h | (right; omega))).same hsame (by simp)).same hs2 (by simp))
  have HS2 := hid (hsame.then hs2)
  have l3 : w.heap.size + 1 + 1 + 1 < w2.heap.size := lt_of_some c3
  clear hs2 hsame b0 b1 b2 b3 hc1 hsz
  by_cases hn : x = old
  · skip
    have g4 : ((x : Int) == (old : Int)) = true := by first | (rw [beq_iff_eq]; omega) | simp
    have f2 : ∀ o, w2.frozen? ⟨w.heap.size + 1 + 1, o, none⟩ = false := fun o => frozen_of_block c2
    have f3 : ∀ o, w2.frozen? ⟨w.heap.size + 1 + 1 + 1, o, none⟩ = false := fun o => frozen_of_block c3
    obtain ⟨m0, m1, m2⟩ := cells3 c0
    obtain ⟨a0, a1, a2⟩ := cells3 c2
    obtain ⟨r0, r1, r2⟩ := cells3 c3
    have C2 := hid c2; have C3 := hid c3
    clear c0 c1 c2 c3
    go_wp2_with fail
    refine post_gen fun W3 hW3 => ?_
    have k23 : ¬ w.heap.size + 1 + 1 = w.heap.size + 1 + 1 + 1 := by omega
    have k32 : ¬ w.heap.size + 1 + 1 + 1 = w.heap.size + 1 + 1 := by omega
    have e2 : W3.heap[w.heap.size + 1 + 1]? = some (.cells #[.int .i64 T, .int .i64 C, .slice (some ⟨b, off, none⟩) xs.length c] 26 (0, 0)) := by
      rw [hW3]; simp only [block_set_other k23]; simp [set_at, C2.out]
    have e3 : W3.heap[w.heap.size + 1 + 1 + 1]? = some (.cells #[.int .u64 0, .slice none 0 0, .bool false] 77 (0, 0)) := by
      rw [hW3]; simp [set_at, block_set_other k32, C3.out]
    have s3 : Same [w.heap.size + 1 + 1, w.heap.size + 1 + 1 + 1] w2 W3 := by rw [hW3]; (repeat refine Same.set ?_ (.inl (by simp))); exact Same.refl _ _
    clear hW3 a0 a1 a2 r0 r1 r2 f2 f3 m0 m1 m2
    obtain ⟨a0, a1, a2⟩ := cells3 e2
    obtain ⟨r0, r1, r2⟩ := cells3 e3
    refine bodyPost_ret (v := .tuple #[.agg #[.int .i64 T, .int .i64 C, .slice (some ⟨b, off, none⟩) xs.length c], .agg #[.int .u64 0, .slice none 0 0, .bool false]]) (by simp [results, Tryd.results51, go_sem, a0, a1, a2, r0, r1, r2]) rfl ?_
    refine ⟨_, rfl, HS2.out.trans s3 (fun z hz => .inr (by simp at hz; omega)), ?_⟩
    rw [show x = old by omega, set_same HI.out]
    exact (HU.out.same s3 (fun z hz => by simp at hz; rcases hz with h | h <;> simp [h])).grow (fun z hz => .inl (by simp [hz]))
  · skip
    have g4 : ((x : Int) == (old : Int)) = false := by rw [beq_eq_false_iff_ne]; omega
    obtain ⟨m0, m1, m2⟩ := cells3 c0
    have C0 := hid c0; have C1 := hid c1; have C2 := hid c2; have C3 := hid c3
    clear c0 c1 c2 c3
    go_wp2_with fail
    refine (clone_words HU.out (fun k hk => by simp at hk; rcases hk with h | h | h | h <;> first | omega | (have := HM.out k h; omega)) (fun h => by simp [h] at hil) HS.out).mono ?_
    rintro _ w3 ⟨b', c', more, rfl, hs3, hb', hblk, hc'⟩
    have c0 := (hs3.block _ (by omega) (by simp)).trans C0.out
    have c1 := (hs3.block _ (by omega) (by simp)).trans C1.out
    have c2 := (hs3.block _ (by omega) (by simp)).trans C2.out
    have c3 := (hs3.block _ (by omega) (by simp)).trans C3.out
    have f0 : ∀ o, w3.frozen? ⟨w.heap.size, o, none⟩ = false := fun o => frozen_of_block c0
    have f2 : ∀ o, w3.frozen? ⟨w.heap.size + 1 + 1, o, none⟩ = false := fun o => frozen_of_block c2
    have f3 : ∀ o, w3.frozen? ⟨w.heap.size + 1 + 1 + 1, o, none⟩ = false := fun o => frozen_of_block c3
    have fb : ∀ o, w3.frozen? ⟨b', o, none⟩ = false := fun o => frozen_of_block hblk
    have nb : w3.cell? ⟨b', i, none⟩ = some (.int .u64 old) := cell_of_block hblk (by rw [Array.getElem?_append_left (by simpa using hil)]; simp [HI.out])
    have n0 : ¬ b' = w.heap.size := by omega
    have n1 : ¬ b' = w.heap.size + 1 := by omega
    have n2 : ¬ b' = w.heap.size + 1 + 1 := by omega
    have n3 : ¬ b' = w.heap.size + 1 + 1 + 1 := by omega
    have n0' : ¬ w.heap.size = b' := by omega
    have n1' : ¬ w.heap.size + 1 = b' := by omega
    have n2' : ¬ w.heap.size + 1 + 1 = b' := by omega
    have n3' : ¬ w.heap.size + 1 + 1 + 1 = b' := by omega
    obtain ⟨m0, m1, m2⟩ := cells3 c0
    obtain ⟨x0, x1, x2, x3, x4, x5⟩ := cells6 c1
    obtain ⟨a0, a1, a2⟩ := cells3 c2
    obtain ⟨r0, r1, r2⟩ := cells3 c3
    have D0 := hid c0; have D2 := hid c2; have D3 := hid c3; have DB := hid hblk; have S3 := hid hs3; have HC' := hid hc'; have HB' := hid hb'
    clear c0 c1 c2 c3 hblk hs3 hc' hb'
    go_wp2_with fail
    refine post_gen fun W3 hW3 => ?_
    have k23 : ¬ w.heap.size + 1 + 1 = w.heap.size + 1 + 1 + 1 := by omega
    have k32 : ¬ w.heap.size + 1 + 1 + 1 = w.heap.size + 1 + 1 := by omega
    have k02 : ¬ w.heap.size = w.heap.size + 1 + 1 := by omega
    have k20 : ¬ w.heap.size + 1 + 1 = w.heap.size := by omega
    have k03 : ¬ w.heap.size = w.heap.size + 1 + 1 + 1 := by omega
    have k30 : ¬ w.heap.size + 1 + 1 + 1 = w.heap.size := by omega
    have e2 : W3.heap[w.heap.size + 1 + 1]? = some (.cells #[.int .i64 T, .int .i64 C, .slice (some ⟨b', 0, none⟩) xs.length c'] 26 (0, 0)) := by
      rw [hW3]; simp [set_at, block_set_other k23, block_set_other k20, block_set_other n2', D2.out]
    have e3 : W3.heap[w.heap.size + 1 + 1 + 1]? = some (.cells #[.int .u64 0, .slice none 0 0, .bool false] 77 (0, 0)) := by
      rw [hW3]; simp [set_at, block_set_other k32, block_set_other k30, block_set_other n3', D3.out]
    have eb : W3.heap[b']? = (w3.setCell ⟨b', i, none⟩ (.int .u64 x)).heap[b']? := by
      rw [hW3]; simp [set_at, block_set_other n0, block_set_other n2, block_set_other n3]
    have s3 : Same [w.heap.size, b', w.heap.size + 1 + 1, w.heap.size + 1 + 1 + 1] w3 W3 := by rw [hW3]; (repeat refine Same.set ?_ (.inl (by simp))); exact Same.refl _ _
    clear hW3 a0 a1 a2 r0 r1 r2 f0 f2 f3 m0 m1 m2 fb nb x0 x1 x2 x3 x4 x5
    obtain ⟨a0, a1, a2⟩ := cells3 e2
    obtain ⟨r0, r1, r2⟩ := cells3 e3
    refine bodyPost_ret (v := .tuple #[.agg #[.int .i64 T, .int .i64 C, .slice (some ⟨b', 0, none⟩) xs.length c'], .agg #[.int .u64 0, .slice none 0 0, .bool false]]) (by simp [results, Tryd.results51, go_sem, a0, a1, a2, r0, r1, r2]) rfl ?_
    have hbM : b' ∉ M := fun hm => by have := HM.out b' hm; have := HB'.out; omega
    refine ⟨_, rfl, (HS2.out.then S3.out).trans s3 (fun z hz => .inr (by have := HB'.out; simp at hz; omega)), ?_⟩
    exact cloned (M := M) (n := x) DB.out eb hbM HC'.out HS.out HU.out.2 hil HX.out

theorem words_in2 {w : World} {T C : Int} {xs : List Nat} {M : List Nat} {b off c : Nat} {da wa : Value} {i x y old : Nat} (h : U64s M w (.slice (some ⟨b, off, none⟩) xs.length c) xs) (hM : ∀ k, k ∈ M → k < w.heap.size) (hi : xs[i]? = some old) (hsm : xs.length ≤ 1000000000) (_hx : x < W64) (_hy : y < W64) {nn nxt : Nat} (_h1 : nn = (if old = x then 1 else 0 : Nat)) (_h2 : nxt = (if old = x then y else old : Nat)) :
    Calls Tryd.prog 51 #[.agg #[.int .i64 T, .int .i64 C, .slice (some ⟨b, off, none⟩) xs.length c], .agg #[.int .i64 2, .int .i64 i, .int .u64 x, .int .u64 y, da, wa]] w fun e w' => ∃ wv, e = .returned (.tuple #[.agg #[.int .i64 T, .int .i64 C, wv], .agg #[.int .u64 nn, .slice none 0 0, .bool false]]) ∧ Same [] w w' ∧ U64s M w' wv (xs.set i nxt) := by
  have hil := (List.getElem?_eq_some_iff.1 hi).1
  have hc := h.1.cells_at i (.int .u64 old) (by simp [hi])
  rw [Addr.add_lit] at hc
  have hb : b < w.heap.size := World.block_lt_of_cell? w _ hc
  have hb1 : b < w.heap.size + 1 := by omega
  have hb2 : b < w.heap.size + 1 + 1 := by omega
  have hb3 : b < w.heap.size + 1 + 1 + 1 := by omega
  have HC := hid hc; have H := hid h; have HM := hid hM; have HI := hid hi; have HX := hid _hx; have HY := hid _hy; have HS := hid hsm
  have hold : old < W64 := h.2 old (List.mem_of_getElem? hi)
  have HOLD := hid hold
  have HN1 := hid _h1; have HN2 := hid _h2; clear _h1 _h2
  clear hc h hM hi _hx _hy hold hsm
  have g1 : decide ((i : Int) < 0) = false := by simp only [decide_eq_false_iff_not]; omega
  have g2 : ¬ xs.length ≤ i := by omega
  have g3 : (0 : Int) ≤ i ∧ (i : Int) < xs.length := by omega
  have hc1 : w.cell? ⟨b, off + i, none⟩ = some (.int .u64 old) := HC.out
  go_enter Tryd.func51, Tryd.ntmps51
  go_wp2_with fail
  refine turns_any.mono ?_
  rintro _ _ ⟨rfl, rfl⟩
  go_wp2_with fail
  refine wp_loop_rounds 3 ?_
  rw [rounds_succ]
  go_wp2_with fail
  rw [rounds_succ]
  go_wp2_with fail
  rw [rounds_succ]
  go_wp2_with fail
  refine calls_gen fun W hW => ?_
  have hsame : Same [] w W := by rw [hW]; (repeat refine Same.alloc ?_ _); exact Same.refl _ _
  have b0 : W.heap[w.heap.size]? = some (.cells #[.int .i64 T, .int .i64 C, .slice (some ⟨b, off, none⟩) xs.length c] 26 (0, 0)) := by rw [hW]; repeat (first | exact block_at (by simp) | refine block_old ?_)
  have b1 : W.heap[w.heap.size + 1]? = some (.cells #[.int .i64 2, .int .i64 i, .int .u64 x, .int .u64 y, da, wa] 73 (0, 0)) := by rw [hW]; repeat (first | exact block_at (by simp) | refine block_old ?_)
  have b2 : W.heap[w.heap.size + 1 + 1]? = some (.cells #[.int .i64 0, .int .i64 0, .slice none 0 0] 26 (0, 0)) := by rw [hW]; repeat (first | exact block_at (by simp) | refine block_old ?_)
  have b3 : W.heap[w.heap.size + 1 + 1 + 1]? = some (.cells #[.int .u64 0, .slice none 0 0, .bool false] 77 (0, 0)) := by rw [hW]; repeat (first | exact block_at (by simp) | refine block_old ?_)
  clear hW
  refine turn2.mono ?_
  rintro _ w2 ⟨rfl, hs2⟩
  have c0 := (hs2.block _ (lt_of_some b0) (by simp)).trans b0
  have c1 := (hs2.block _ (lt_of_some b1) (by simp)).trans b1
  have c2 := (hs2.block _ (lt_of_some b2) (by simp)).trans b2
  have c3 := (hs2.block _ (lt_of_some b3) (by simp)).trans b3
  have hsz := hsame.size
  have HU : Hid (U64s (w.heap.size :: (w.heap.size + 1 + 1) :: (w.heap.size + 1 + 1 + 1) :: M) w2 (.slice (some ⟨b, off, none⟩) xs.length c) xs) := hid (((H.out.grow (M' := w.heap.size :: (w.heap.size + 1 + 1) :: (w.heap.size + 1 + 1 + 1) :: M) (fun z hz => by simp at hz; rcases hz with h | h | h | h <;> first | exact .inl h | (right; omega))).same hsame (by simp)).same hs2 (by simp))
  have HS2 := hid (hsame.then hs2)
  have l3 : w.heap.size + 1 + 1 + 1 < w2.heap.size := lt_of_some c3
  clear hs2 hsame b0 b1 b2 b3 hc1 hsz
  rw [← HN1.out, ← HN2.out]
  have hlt : nxt < W64 := by rw [HN2.out]; split; exact HY.out; exact HOLD.out
  have HLT := hid hlt; clear hlt
  by_cases hn : nxt = old
  · skip
    have g4 : ((nxt : Int) == (old : Int)) = true := by first | (rw [beq_iff_eq]; omega) | simp
    have f2 : ∀ o, w2.frozen? ⟨w.heap.size + 1 + 1, o, none⟩ = false := fun o => frozen_of_block c2
    have f3 : ∀ o, w2.frozen? ⟨w.heap.size + 1 + 1 + 1, o, none⟩ = false := fun o => frozen_of_block c3
    obtain ⟨m0, m1, m2⟩ := cells3 c0
    obtain ⟨a0, a1, a2⟩ := cells3 c2
    obtain ⟨r0, r1, r2⟩ := cells3 c3
    have C2 := hid c2; have C3 := hid c3
    clear c0 c1 c2 c3
    go_wp2_with fail
    refine post_gen fun W3 hW3 => ?_
    have k23 : ¬ w.heap.size + 1 + 1 = w.heap.size + 1 + 1 + 1 := by omega
    have k32 : ¬ w.heap.size + 1 + 1 + 1 = w.heap.size + 1 + 1 := by omega
    have e2 : W3.heap[w.heap.size + 1 + 1]? = some (.cells #[.int .i64 T, .int .i64 C, .slice (some ⟨b, off, none⟩) xs.length c] 26 (0, 0)) := by
      rw [hW3]; simp only [block_set_other k23]; simp [set_at, C2.out]
    have e3 : W3.heap[w.heap.size + 1 + 1 + 1]? = some (.cells #[.int .u64 nn, .slice none 0 0, .bool false] 77 (0, 0)) := by
      rw [hW3]; simp [set_at, block_set_other k32, C3.out]
    have s3 : Same [w.heap.size + 1 + 1, w.heap.size + 1 + 1 + 1] w2 W3 := by rw [hW3]; (repeat refine Same.set ?_ (.inl (by simp))); exact Same.refl _ _
    clear hW3 a0 a1 a2 r0 r1 r2 f2 f3 m0 m1 m2
    obtain ⟨a0, a1, a2⟩ := cells3 e2
    obtain ⟨r0, r1, r2⟩ := cells3 e3
    refine bodyPost_ret (v := .tuple #[.agg #[.int .i64 T, .int .i64 C, .slice (some ⟨b, off, none⟩) xs.length c], .agg #[.int .u64 nn, .slice none 0 0, .bool false]]) (by simp [results, Tryd.results51, go_sem, a0, a1, a2, r0, r1, r2]) rfl ?_
    refine ⟨_, rfl, HS2.out.trans s3 (fun z hz => .inr (by simp at hz; omega)), ?_⟩
    rw [show nxt = old by omega, set_same HI.out]
    exact (HU.out.same s3 (fun z hz => by simp at hz; rcases hz with h | h <;> simp [h])).grow (fun z hz => .inl (by simp [hz]))
  · skip
    have g4 : ((nxt : Int) == (old : Int)) = false := by rw [beq_eq_false_iff_ne]; omega
    obtain ⟨m0, m1, m2⟩ := cells3 c0
    have C0 := hid c0; have C1 := hid c1; have C2 := hid c2; have C3 := hid c3
    clear c0 c1 c2 c3
    go_wp2_with fail
    refine (clone_words HU.out (fun k hk => by simp at hk; rcases hk with h | h | h | h <;> first | omega | (have := HM.out k h; omega)) (fun h => by simp [h] at hil) HS.out).mono ?_
    rintro _ w3 ⟨b', c', more, rfl, hs3, hb', hblk, hc'⟩
    have c0 := (hs3.block _ (by omega) (by simp)).trans C0.out
    have c1 := (hs3.block _ (by omega) (by simp)).trans C1.out
    have c2 := (hs3.block _ (by omega) (by simp)).trans C2.out
    have c3 := (hs3.block _ (by omega) (by simp)).trans C3.out
    have f0 : ∀ o, w3.frozen? ⟨w.heap.size, o, none⟩ = false := fun o => frozen_of_block c0
    have f2 : ∀ o, w3.frozen? ⟨w.heap.size + 1 + 1, o, none⟩ = false := fun o => frozen_of_block c2
    have f3 : ∀ o, w3.frozen? ⟨w.heap.size + 1 + 1 + 1, o, none⟩ = false := fun o => frozen_of_block c3
    have fb : ∀ o, w3.frozen? ⟨b', o, none⟩ = false := fun o => frozen_of_block hblk
    have nb : w3.cell? ⟨b', i, none⟩ = some (.int .u64 old) := cell_of_block hblk (by rw [Array.getElem?_append_left (by simpa using hil)]; simp [HI.out])
    have n0 : ¬ b' = w.heap.size := by omega
    have n1 : ¬ b' = w.heap.size + 1 := by omega
    have n2 : ¬ b' = w.heap.size + 1 + 1 := by omega
    have n3 : ¬ b' = w.heap.size + 1 + 1 + 1 := by omega
    have n0' : ¬ w.heap.size = b' := by omega
    have n1' : ¬ w.heap.size + 1 = b' := by omega
    have n2' : ¬ w.heap.size + 1 + 1 = b' := by omega
    have n3' : ¬ w.heap.size + 1 + 1 + 1 = b' := by omega
    obtain ⟨m0, m1, m2⟩ := cells3 c0
    obtain ⟨x0, x1, x2, x3, x4, x5⟩ := cells6 c1
    obtain ⟨a0, a1, a2⟩ := cells3 c2
    obtain ⟨r0, r1, r2⟩ := cells3 c3
    have D0 := hid c0; have D2 := hid c2; have D3 := hid c3; have DB := hid hblk; have S3 := hid hs3; have HC' := hid hc'; have HB' := hid hb'
    clear c0 c1 c2 c3 hblk hs3 hc' hb'
    go_wp2_with fail
    refine post_gen fun W3 hW3 => ?_
    have k23 : ¬ w.heap.size + 1 + 1 = w.heap.size + 1 + 1 + 1 := by omega
    have k32 : ¬ w.heap.size + 1 + 1 + 1 = w.heap.size + 1 + 1 := by omega
    have k02 : ¬ w.heap.size = w.heap.size + 1 + 1 := by omega
    have k20 : ¬ w.heap.size + 1 + 1 = w.heap.size := by omega
    have k03 : ¬ w.heap.size = w.heap.size + 1 + 1 + 1 := by omega
    have k30 : ¬ w.heap.size + 1 + 1 + 1 = w.heap.size := by omega
    have e2 : W3.heap[w.heap.size + 1 + 1]? = some (.cells #[.int .i64 T, .int .i64 C, .slice (some ⟨b', 0, none⟩) xs.length c'] 26 (0, 0)) := by
      rw [hW3]; simp [set_at, block_set_other k23, block_set_other k20, block_set_other n2', D2.out]
    have e3 : W3.heap[w.heap.size + 1 + 1 + 1]? = some (.cells #[.int .u64 nn, .slice none 0 0, .bool false] 77 (0, 0)) := by
      rw [hW3]; simp [set_at, block_set_other k32, block_set_other k30, block_set_other n3', D3.out]
    have eb : W3.heap[b']? = (w3.setCell ⟨b', i, none⟩ (.int .u64 nxt)).heap[b']? := by
      rw [hW3]; simp [set_at, block_set_other n0, block_set_other n2, block_set_other n3]
    have s3 : Same [w.heap.size, b', w.heap.size + 1 + 1, w.heap.size + 1 + 1 + 1] w3 W3 := by rw [hW3]; (repeat refine Same.set ?_ (.inl (by simp))); exact Same.refl _ _
    clear hW3 a0 a1 a2 r0 r1 r2 f0 f2 f3 m0 m1 m2 fb nb x0 x1 x2 x3 x4 x5
    obtain ⟨a0, a1, a2⟩ := cells3 e2
    obtain ⟨r0, r1, r2⟩ := cells3 e3
    refine bodyPost_ret (v := .tuple #[.agg #[.int .i64 T, .int .i64 C, .slice (some ⟨b', 0, none⟩) xs.length c'], .agg #[.int .u64 nn, .slice none 0 0, .bool false]]) (by simp [results, Tryd.results51, go_sem, a0, a1, a2, r0, r1, r2]) rfl ?_
    have hbM : b' ∉ M := fun hm => by have := HM.out b' hm; have := HB'.out; omega
    refine ⟨_, rfl, (HS2.out.then S3.out).trans s3 (fun z hz => .inr (by have := HB'.out; simp at hz; omega)), ?_⟩
    exact cloned (M := M) (n := nxt) DB.out eb hbM HC'.out HS.out HU.out.2 hil HLT.out

theorem words_in3 {w : World} {T C : Int} {xs : List Nat} {M : List Nat} {b off c : Nat} {da wa : Value} {i x y old : Nat} (h : U64s M w (.slice (some ⟨b, off, none⟩) xs.length c) xs) (hM : ∀ k, k ∈ M → k < w.heap.size) (hi : xs[i]? = some old) (hsm : xs.length ≤ 1000000000) (_hx : x < W64) (_hy : y < W64) :
    Calls Tryd.prog 51 #[.agg #[.int .i64 T, .int .i64 C, .slice (some ⟨b, off, none⟩) xs.length c], .agg #[.int .i64 3, .int .i64 i, .int .u64 x, .int .u64 y, da, wa]] w fun e w' => ∃ wv, e = .returned (.tuple #[.agg #[.int .i64 T, .int .i64 C, wv], .agg #[.int .u64 old, .slice none 0 0, .bool false]]) ∧ Same [] w w' ∧ U64s M w' wv (xs.set i ((old + x) % W64 : Nat)) := by
  have hil := (List.getElem?_eq_some_iff.1 hi).1
  have hc := h.1.cells_at i (.int .u64 old) (by simp [hi])
  rw [Addr.add_lit] at hc
  have hb : b < w.heap.size := World.block_lt_of_cell? w _ hc
  have hb1 : b < w.heap.size + 1 := by omega
  have hb2 : b < w.heap.size + 1 + 1 := by omega
  have hb3 : b < w.heap.size + 1 + 1 + 1 := by omega
  have HC := hid hc; have H := hid h; have HM := hid hM; have HI := hid hi; have HX := hid _hx; have HY := hid _hy; have HS := hid hsm
  have hold : old < W64 := h.2 old (List.mem_of_getElem? hi)
  have HOLD := hid hold
  skip
  clear hc h hM hi _hx _hy hold hsm
  have g1 : decide ((i : Int) < 0) = false := by simp only [decide_eq_false_iff_not]; omega
  have g2 : ¬ xs.length ≤ i := by omega
  have g3 : (0 : Int) ≤ i ∧ (i : Int) < xs.length := by omega
  have hc1 : w.cell? ⟨b, off + i, none⟩ = some (.int .u64 old) := HC.out
  go_enter Tryd.func51, Tryd.ntmps51
  go_wp2_with fail
  refine turns_any.mono ?_
  rintro _ _ ⟨rfl, rfl⟩
  go_wp2_with fail
  refine wp_loop_rounds 4 ?_
  rw [rounds_succ]
  go_wp2_with fail
  rw [rounds_succ]
  go_wp2_with fail
  rw [rounds_succ]
  go_wp2_with fail
  rw [rounds_succ]
  go_wp2_with fail
  refine calls_gen fun W hW => ?_
  have hsame : Same [] w W := by rw [hW]; (repeat refine Same.alloc ?_ _); exact Same.refl _ _
  have b0 : W.heap[w.heap.size]? = some (.cells #[.int .i64 T, .int .i64 C, .slice (some ⟨b, off, none⟩) xs.length c] 26 (0, 0)) := by rw [hW]; repeat (first | exact block_at (by simp) | refine block_old ?_)
  have b1 : W.heap[w.heap.size + 1]? = some (.cells #[.int .i64 3, .int .i64 i, .int .u64 x, .int .u64 y, da, wa] 73 (0, 0)) := by rw [hW]; repeat (first | exact block_at (by simp) | refine block_old ?_)
  have b2 : W.heap[w.heap.size + 1 + 1]? = some (.cells #[.int .i64 0, .int .i64 0, .slice none 0 0] 26 (0, 0)) := by rw [hW]; repeat (first | exact block_at (by simp) | refine block_old ?_)
  have b3 : W.heap[w.heap.size + 1 + 1 + 1]? = some (.cells #[.int .u64 0, .slice none 0 0, .bool false] 77 (0, 0)) := by rw [hW]; repeat (first | exact block_at (by simp) | refine block_old ?_)
  clear hW
  refine turn3.mono ?_
  rintro _ w2 ⟨rfl, hs2⟩
  have c0 := (hs2.block _ (lt_of_some b0) (by simp)).trans b0
  have c1 := (hs2.block _ (lt_of_some b1) (by simp)).trans b1
  have c2 := (hs2.block _ (lt_of_some b2) (by simp)).trans b2
  have c3 := (hs2.block _ (lt_of_some b3) (by simp)).trans b3
  have hsz := hsame.size
  have HU : Hid (U64s (w.heap.size :: (w.heap.size + 1 + 1) :: (w.heap.size + 1 + 1 + 1) :: M) w2 (.slice (some ⟨b, off, none⟩) xs.length c) xs) := hid (((H.out.grow (M' := w.heap.size :: (w.heap.size + 1 + 1) :: (w.heap.size + 1 + 1 + 1) :: M) (fun z hz => by simp at hz; rcases hz with h | h | h | h <;> first | exact .inl h | (right; omega))).same hsame (by simp)).same hs2 (by simp))
  have HS2 := hid (hsame.then hs2)
  have l3 : w.heap.size + 1 + 1 + 1 < w2.heap.size := lt_of_some c3
  clear hs2 hsame b0 b1 b2 b3 hc1 hsz
  obtain ⟨nxt, hnxt⟩ : ∃ nxt : Nat, nxt = ((old + x) % W64 : Nat) := ⟨_, rfl⟩
  rw [← hnxt]
  have hlt : nxt < W64 := by rw [hnxt]; exact Nat.mod_lt _ (by decide)
  have HLT := hid hlt; have HNX := hid hnxt; clear hlt hnxt
  by_cases hn : nxt = old
  · skip
    have g4 : ((nxt : Int) == (old : Int)) = true := by first | (rw [beq_iff_eq]; omega) | simp
    have f2 : ∀ o, w2.frozen? ⟨w.heap.size + 1 + 1, o, none⟩ = false := fun o => frozen_of_block c2
    have f3 : ∀ o, w2.frozen? ⟨w.heap.size + 1 + 1 + 1, o, none⟩ = false := fun o => frozen_of_block c3
    obtain ⟨m0, m1, m2⟩ := cells3 c0
    obtain ⟨a0, a1, a2⟩ := cells3 c2
    obtain ⟨r0, r1, r2⟩ := cells3 c3
    have C2 := hid c2; have C3 := hid c3
    clear c0 c1 c2 c3
    go_wp2_with fail
    refine post_gen fun W3 hW3 => ?_
    have k23 : ¬ w.heap.size + 1 + 1 = w.heap.size + 1 + 1 + 1 := by omega
    have k32 : ¬ w.heap.size + 1 + 1 + 1 = w.heap.size + 1 + 1 := by omega
    have e2 : W3.heap[w.heap.size + 1 + 1]? = some (.cells #[.int .i64 T, .int .i64 C, .slice (some ⟨b, off, none⟩) xs.length c] 26 (0, 0)) := by
      rw [hW3]; simp only [block_set_other k23]; simp [set_at, C2.out]
    have e3 : W3.heap[w.heap.size + 1 + 1 + 1]? = some (.cells #[.int .u64 old, .slice none 0 0, .bool false] 77 (0, 0)) := by
      rw [hW3]; simp [set_at, block_set_other k32, C3.out]
    have s3 : Same [w.heap.size + 1 + 1, w.heap.size + 1 + 1 + 1] w2 W3 := by rw [hW3]; (repeat refine Same.set ?_ (.inl (by simp))); exact Same.refl _ _
    clear hW3 a0 a1 a2 r0 r1 r2 f2 f3 m0 m1 m2
    obtain ⟨a0, a1, a2⟩ := cells3 e2
    obtain ⟨r0, r1, r2⟩ := cells3 e3
    refine bodyPost_ret (v := .tuple #[.agg #[.int .i64 T, .int .i64 C, .slice (some ⟨b, off, none⟩) xs.length c], .agg #[.int .u64 old, .slice none 0 0, .bool false]]) (by simp [results, Tryd.results51, go_sem, a0, a1, a2, r0, r1, r2]) rfl ?_
    refine ⟨_, rfl, HS2.out.trans s3 (fun z hz => .inr (by simp at hz; omega)), ?_⟩
    rw [show ((old + x) % W64 : Nat) = nxt from HNX.out.symm]; rw [show nxt = old by omega, set_same HI.out]
    exact (HU.out.same s3 (fun z hz => by simp at hz; rcases hz with h | h <;> simp [h])).grow (fun z hz => .inl (by simp [hz]))
  · skip
    have g4 : ((nxt : Int) == (old : Int)) = false := by rw [beq_eq_false_iff_ne]; omega
    obtain ⟨m0, m1, m2⟩ := cells3 c0
    have C0 := hid c0; have C1 := hid c1; have C2 := hid c2; have C3 := hid c3
    clear c0 c1 c2 c3
    go_wp2_with fail
    refine (clone_words HU.out (fun k hk => by simp at hk; rcases hk with h | h | h | h <;> first | omega | (have := HM.out k h; omega)) (fun h => by simp [h] at hil) HS.out).mono ?_
    rintro _ w3 ⟨b', c', more, rfl, hs3, hb', hblk, hc'⟩
    have c0 := (hs3.block _ (by omega) (by simp)).trans C0.out
    have c1 := (hs3.block _ (by omega) (by simp)).trans C1.out
    have c2 := (hs3.block _ (by omega) (by simp)).trans C2.out
    have c3 := (hs3.block _ (by omega) (by simp)).trans C3.out
    have f0 : ∀ o, w3.frozen? ⟨w.heap.size, o, none⟩ = false := fun o => frozen_of_block c0
    have f2 : ∀ o, w3.frozen? ⟨w.heap.size + 1 + 1, o, none⟩ = false := fun o => frozen_of_block c2
    have f3 : ∀ o, w3.frozen? ⟨w.heap.size + 1 + 1 + 1, o, none⟩ = false := fun o => frozen_of_block c3
    have fb : ∀ o, w3.frozen? ⟨b', o, none⟩ = false := fun o => frozen_of_block hblk
    have nb : w3.cell? ⟨b', i, none⟩ = some (.int .u64 old) := cell_of_block hblk (by rw [Array.getElem?_append_left (by simpa using hil)]; simp [HI.out])
    have n0 : ¬ b' = w.heap.size := by omega
    have n1 : ¬ b' = w.heap.size + 1 := by omega
    have n2 : ¬ b' = w.heap.size + 1 + 1 := by omega
    have n3 : ¬ b' = w.heap.size + 1 + 1 + 1 := by omega
    have n0' : ¬ w.heap.size = b' := by omega
    have n1' : ¬ w.heap.size + 1 = b' := by omega
    have n2' : ¬ w.heap.size + 1 + 1 = b' := by omega
    have n3' : ¬ w.heap.size + 1 + 1 + 1 = b' := by omega
    obtain ⟨m0, m1, m2⟩ := cells3 c0
    obtain ⟨x0, x1, x2, x3, x4, x5⟩ := cells6 c1
    obtain ⟨a0, a1, a2⟩ := cells3 c2
    obtain ⟨r0, r1, r2⟩ := cells3 c3
    have D0 := hid c0; have D2 := hid c2; have D3 := hid c3; have DB := hid hblk; have S3 := hid hs3; have HC' := hid hc'; have HB' := hid hb'
    clear c0 c1 c2 c3 hblk hs3 hc' hb'
    go_wp2_with fail
    refine post_gen fun W3 hW3 => ?_
    have k23 : ¬ w.heap.size + 1 + 1 = w.heap.size + 1 + 1 + 1 := by omega
    have k32 : ¬ w.heap.size + 1 + 1 + 1 = w.heap.size + 1 + 1 := by omega
    have k02 : ¬ w.heap.size = w.heap.size + 1 + 1 := by omega
    have k20 : ¬ w.heap.size + 1 + 1 = w.heap.size := by omega
    have k03 : ¬ w.heap.size = w.heap.size + 1 + 1 + 1 := by omega
    have k30 : ¬ w.heap.size + 1 + 1 + 1 = w.heap.size := by omega
    have e2 : W3.heap[w.heap.size + 1 + 1]? = some (.cells #[.int .i64 T, .int .i64 C, .slice (some ⟨b', 0, none⟩) xs.length c'] 26 (0, 0)) := by
      rw [hW3]; simp [set_at, block_set_other k23, block_set_other k20, block_set_other n2', D2.out]
    have e3 : W3.heap[w.heap.size + 1 + 1 + 1]? = some (.cells #[.int .u64 old, .slice none 0 0, .bool false] 77 (0, 0)) := by
      rw [hW3]; simp [set_at, block_set_other k32, block_set_other k30, block_set_other n3', D3.out]
    have eb : W3.heap[b']? = (w3.setCell ⟨b', i, none⟩ (.int .u64 nxt)).heap[b']? := by
      rw [hW3]; simp [set_at, block_set_other n0, block_set_other n2, block_set_other n3]
    have s3 : Same [w.heap.size, b', w.heap.size + 1 + 1, w.heap.size + 1 + 1 + 1] w3 W3 := by rw [hW3]; (repeat refine Same.set ?_ (.inl (by simp))); exact Same.refl _ _
    clear hW3 a0 a1 a2 r0 r1 r2 f0 f2 f3 m0 m1 m2 fb nb x0 x1 x2 x3 x4 x5
    obtain ⟨a0, a1, a2⟩ := cells3 e2
    obtain ⟨r0, r1, r2⟩ := cells3 e3
    refine bodyPost_ret (v := .tuple #[.agg #[.int .i64 T, .int .i64 C, .slice (some ⟨b', 0, none⟩) xs.length c'], .agg #[.int .u64 old, .slice none 0 0, .bool false]]) (by simp [results, Tryd.results51, go_sem, a0, a1, a2, r0, r1, r2]) rfl ?_
    have hbM : b' ∉ M := fun hm => by have := HM.out b' hm; have := HB'.out; omega
    refine ⟨_, rfl, (HS2.out.then S3.out).trans s3 (fun z hz => .inr (by have := HB'.out; simp at hz; omega)), ?_⟩
    rw [show ((old + x) % W64 : Nat) = nxt from HNX.out.symm]; exact cloned (M := M) (n := nxt) DB.out eb hbM HC'.out HS.out HU.out.2 hil HLT.out

theorem words_in4 {w : World} {T C : Int} {xs : List Nat} {M : List Nat} {b off c : Nat} {da wa : Value} {i x y old : Nat} (h : U64s M w (.slice (some ⟨b, off, none⟩) xs.length c) xs) (hM : ∀ k, k ∈ M → k < w.heap.size) (hi : xs[i]? = some old) (hsm : xs.length ≤ 1000000000) (_hx : x < W64) (_hy : y < W64) :
    Calls Tryd.prog 51 #[.agg #[.int .i64 T, .int .i64 C, .slice (some ⟨b, off, none⟩) xs.length c], .agg #[.int .i64 4, .int .i64 i, .int .u64 x, .int .u64 y, da, wa]] w fun e w' => ∃ wv, e = .returned (.tuple #[.agg #[.int .i64 T, .int .i64 C, wv], .agg #[.int .u64 old, .slice none 0 0, .bool false]]) ∧ Same [] w w' ∧ U64s M w' wv (xs.set i x) := by
  have hil := (List.getElem?_eq_some_iff.1 hi).1
  have hc := h.1.cells_at i (.int .u64 old) (by simp [hi])
  rw [Addr.add_lit] at hc
  have hb : b < w.heap.size := World.block_lt_of_cell? w _ hc
  have hb1 : b < w.heap.size + 1 := by omega
  have hb2 : b < w.heap.size + 1 + 1 := by omega
  have hb3 : b < w.heap.size + 1 + 1 + 1 := by omega
  have HC := hid hc; have H := hid h; have HM := hid hM; have HI := hid hi; have HX := hid _hx; have HY := hid _hy; have HS := hid hsm
  have hold : old < W64 := h.2 old (List.mem_of_getElem? hi)
  have HOLD := hid hold
  skip
  clear hc h hM hi _hx _hy hold hsm
  have g1 : decide ((i : Int) < 0) = false := by simp only [decide_eq_false_iff_not]; omega
  have g2 : ¬ xs.length ≤ i := by omega
  have g3 : (0 : Int) ≤ i ∧ (i : Int) < xs.length := by omega
  have hc1 : w.cell? ⟨b, off + i, none⟩ = some (.int .u64 old) := HC.out
  go_enter Tryd.func51, Tryd.ntmps51
  go_wp2_with fail
  refine turns_any.mono ?_
  rintro _ _ ⟨rfl, rfl⟩
  go_wp2_with fail
  refine wp_loop_rounds 5 ?_
  rw [rounds_succ]
  go_wp2_with fail
  rw [rounds_succ]
  go_wp2_with fail
  rw [rounds_succ]
  go_wp2_with fail
  rw [rounds_succ]
  go_wp2_with fail
  rw [rounds_succ]
  go_wp2_with fail
  refine calls_gen fun W hW => ?_
  have hsame : Same [] w W := by rw [hW]; (repeat refine Same.alloc ?_ _); exact Same.refl _ _
  have b0 : W.heap[w.heap.size]? = some (.cells #[.int .i64 T, .int .i64 C, .slice (some ⟨b, off, none⟩) xs.length c] 26 (0, 0)) := by rw [hW]; repeat (first | exact block_at (by simp) | refine block_old ?_)
  have b1 : W.heap[w.heap.size + 1]? = some (.cells #[.int .i64 4, .int .i64 i, .int .u64 x, .int .u64 y, da, wa] 73 (0, 0)) := by rw [hW]; repeat (first | exact block_at (by simp) | refine block_old ?_)
  have b2 : W.heap[w.heap.size + 1 + 1]? = some (.cells #[.int .i64 0, .int .i64 0, .slice none 0 0] 26 (0, 0)) := by rw [hW]; repeat (first | exact block_at (by simp) | refine block_old ?_)
  have b3 : W.heap[w.heap.size + 1 + 1 + 1]? = some (.cells #[.int .u64 0, .slice none 0 0, .bool false] 77 (0, 0)) := by rw [hW]; repeat (first | exact block_at (by simp) | refine block_old ?_)
  clear hW
  refine turn4.mono ?_
  rintro _ w2 ⟨rfl, hs2⟩
  have c0 := (hs2.block _ (lt_of_some b0) (by simp)).trans b0
  have c1 := (hs2.block _ (lt_of_some b1) (by simp)).trans b1
  have c2 := (hs2.block _ (lt_of_some b2) (by simp)).trans b2
  have c3 := (hs2.block _ (lt_of_some b3) (by simp)).trans b3
  have hsz := hsame.size
  have HU : Hid (U64s (w.heap.size :: (w.heap.size + 1 + 1) :: (w.heap.size + 1 + 1 + 1) :: M) w2 (.slice (some ⟨b, off, none⟩) xs.length c) xs) := hid (((H.out.grow (M' := w.heap.size :: (w.heap.size + 1 + 1) :: (w.heap.size + 1 + 1 + 1) :: M) (fun z hz => by simp at hz; rcases hz with h | h | h | h <;> first | exact .inl h | (right; omega))).same hsame (by simp)).same hs2 (by simp))
  have HS2 := hid (hsame.then hs2)
  have l3 : w.heap.size + 1 + 1 + 1 < w2.heap.size := lt_of_some c3
  clear hs2 hsame b0 b1 b2 b3 hc1 hsz
  by_cases hn : x = old
  · skip
    have g4 : ((x : Int) == (old : Int)) = true := by first | (rw [beq_iff_eq]; omega) | simp
    have f2 : ∀ o, w2.frozen? ⟨w.heap.size + 1 + 1, o, none⟩ = false := fun o => frozen_of_block c2
    have f3 : ∀ o, w2.frozen? ⟨w.heap.size + 1 + 1 + 1, o, none⟩ = false := fun o => frozen_of_block c3
    obtain ⟨m0, m1, m2⟩ := cells3 c0
    obtain ⟨a0, a1, a2⟩ := cells3 c2
    obtain ⟨r0, r1, r2⟩ := cells3 c3
    have C2 := hid c2; have C3 := hid c3
    clear c0 c1 c2 c3
    go_wp2_with fail
    refine post_gen fun W3 hW3 => ?_
    have k23 : ¬ w.heap.size + 1 + 1 = w.heap.size + 1 + 1 + 1 := by omega
    have k32 : ¬ w.heap.size + 1 + 1 + 1 = w.heap.size + 1 + 1 := by omega
    have e2 : W3.heap[w.heap.size + 1 + 1]? = some (.cells #[.int .i64 T, .int .i64 C, .slice (some ⟨b, off, none⟩) xs.length c] 26 (0, 0)) := by
      rw [hW3]; simp only [block_set_other k23]; simp [set_at, C2.out]
    have e3 : W3.heap[w.heap.size + 1 + 1 + 1]? = some (.cells #[.int .u64 old, .slice none 0 0, .bool false] 77 (0, 0)) := by
      rw [hW3]; simp [set_at, block_set_other k32, C3.out]
    have s3 : Same [w.heap.size + 1 + 1, w.heap.size + 1 + 1 + 1] w2 W3 := by rw [hW3]; (repeat refine Same.set ?_ (.inl (by simp))); exact Same.refl _ _
    clear hW3 a0 a1 a2 r0 r1 r2 f2 f3 m0 m1 m2
    obtain ⟨a0, a1, a2⟩ := cells3 e2
    obtain ⟨r0, r1, r2⟩ := cells3 e3
    refine bodyPost_ret (v := .tuple #[.agg #[.int .i64 T, .int .i64 C, .slice (some ⟨b, off, none⟩) xs.length c], .agg #[.int .u64 old, .slice none 0 0, .bool false]]) (by simp [results, Tryd.results51, go_sem, a0, a1, a2, r0, r1, r2]) rfl ?_
    refine ⟨_, rfl, HS2.out.trans s3 (fun z hz => .inr (by simp at hz; omega)), ?_⟩
    rw [show x = old by omega, set_same HI.out]
    exact (HU.out.same s3 (fun z hz => by simp at hz; rcases hz with h | h <;> simp [h])).grow (fun z hz => .inl (by simp [hz]))
  · skip
    have g4 : ((x : Int) == (old : Int)) = false := by rw [beq_eq_false_iff_ne]; omega
    obtain ⟨m0, m1, m2⟩ := cells3 c0
    have C0 := hid c0; have C1 := hid c1; have C2 := hid c2; have C3 := hid c3
    clear c0 c1 c2 c3
    go_wp2_with fail
    refine (clone_words HU.out (fun k hk => by simp at hk; rcases hk with h | h | h | h <;> first | omega | (have := HM.out k h; omega)) (fun h => by simp [h] at hil) HS.out).mono ?_
    rintro _ w3 ⟨b', c', more, rfl, hs3, hb', hblk, hc'⟩
    have c0 := (hs3.block _ (by omega) (by simp)).trans C0.out
    have c1 := (hs3.block _ (by omega) (by simp)).trans C1.out
    have c2 := (hs3.block _ (by omega) (by simp)).trans C2.out
    have c3 := (hs3.block _ (by omega) (by simp)).trans C3.out
    have f0 : ∀ o, w3.frozen? ⟨w.heap.size, o, none⟩ = false := fun o => frozen_of_block c0
    have f2 : ∀ o, w3.frozen? ⟨w.heap.size + 1 + 1, o, none⟩ = false := fun o => frozen_of_block c2
    have f3 : ∀ o, w3.frozen? ⟨w.heap.size + 1 + 1 + 1, o, none⟩ = false := fun o => frozen_of_block c3
    have fb : ∀ o, w3.frozen? ⟨b', o, none⟩ = false := fun o => frozen_of_block hblk
    have nb : w3.cell? ⟨b', i, none⟩ = some (.int .u64 old) := cell_of_block hblk (by rw [Array.getElem?_append_left (by simpa using hil)]; simp [HI.out])
    have n0 : ¬ b' = w.heap.size := by omega
    have n1 : ¬ b' = w.heap.size + 1 := by omega
    have n2 : ¬ b' = w.heap.size + 1 + 1 := by omega
    have n3 : ¬ b' = w.heap.size + 1 + 1 + 1 := by omega
    have n0' : ¬ w.heap.size = b' := by omega
    have n1' : ¬ w.heap.size + 1 = b' := by omega
    have n2' : ¬ w.heap.size + 1 + 1 = b' := by omega
    have n3' : ¬ w.heap.size + 1 + 1 + 1 = b' := by omega
    obtain ⟨m0, m1, m2⟩ := cells3 c0
    obtain ⟨x0, x1, x2, x3, x4, x5⟩ := cells6 c1
    obtain ⟨a0, a1, a2⟩ := cells3 c2
    obtain ⟨r0, r1, r2⟩ := cells3 c3
    have D0 := hid c0; have D2 := hid c2; have D3 := hid c3; have DB := hid hblk; have S3 := hid hs3; have HC' := hid hc'; have HB' := hid hb'
    clear c0 c1 c2 c3 hblk hs3 hc' hb'
    go_wp2_with fail
    refine post_gen fun W3 hW3 => ?_
    have k23 : ¬ w.heap.size + 1 + 1 = w.heap.size + 1 + 1 + 1 := by omega
    have k32 : ¬ w.heap.size + 1 + 1 + 1 = w.heap.size + 1 + 1 := by omega
    have k02 : ¬ w.heap.size = w.heap.size + 1 + 1 := by omega
    have k20 : ¬ w.heap.size + 1 + 1 = w.heap.size := by omega
    have k03 : ¬ w.heap.size = w.heap.size + 1 + 1 + 1 := by omega
    have k30 : ¬ w.heap.size + 1 + 1 + 1 = w.heap.size := by omega
    have e2 : W3.heap[w.heap.size + 1 + 1]? = some (.cells #[.int .i64 T, .int .i64 C, .slice (some ⟨b', 0, none⟩) xs.length c'] 26 (0, 0)) := by
      rw [hW3]; simp [set_at, block_set_other k23, block_set_other k20, block_set_other n2', D2.out]
    have e3 : W3.heap[w.heap.size + 1 + 1 + 1]? = some (.cells #[.int .u64 old, .slice none 0 0, .bool false] 77 (0, 0)) := by
      rw [hW3]; simp [set_at, block_set_other k32, block_set_other k30, block_set_other n3', D3.out]
    have eb : W3.heap[b']? = (w3.setCell ⟨b', i, none⟩ (.int .u64 x)).heap[b']? := by
      rw [hW3]; simp [set_at, block_set_other n0, block_set_other n2, block_set_other n3]
    have s3 : Same [w.heap.size, b', w.heap.size + 1 + 1, w.heap.size + 1 + 1 + 1] w3 W3 := by rw [hW3]; (repeat refine Same.set ?_ (.inl (by simp))); exact Same.refl _ _
    clear hW3 a0 a1 a2 r0 r1 r2 f0 f2 f3 m0 m1 m2 fb nb x0 x1 x2 x3 x4 x5
    obtain ⟨a0, a1, a2⟩ := cells3 e2
    obtain ⟨r0, r1, r2⟩ := cells3 e3
    refine bodyPost_ret (v := .tuple #[.agg #[.int .i64 T, .int .i64 C, .slice (some ⟨b', 0, none⟩) xs.length c'], .agg #[.int .u64 old, .slice none 0 0, .bool false]]) (by simp [results, Tryd.results51, go_sem, a0, a1, a2, r0, r1, r2]) rfl ?_
    have hbM : b' ∉ M := fun hm => by have := HM.out b' hm; have := HB'.out; omega
    refine ⟨_, rfl, (HS2.out.then S3.out).trans s3 (fun z hz => .inr (by have := HB'.out; simp at hz; omega)), ?_⟩
    exact cloned (M := M) (n := x) DB.out eb hbM HC'.out HS.out HU.out.2 hil HX.out
end Go.Proofs.YtdfeinfaljidgaaDoor
