/- access.Do: a world behind an access of a word, an append or a sync. -/
import Derived.Test.YtdfeinfaljidgaaDoorWords
import Derived.Test.YtdfeinfaljidgaaDoorStreams
namespace Go.Proofs.YtdfeinfaljidgaaDoor
open Go Go.RowKit

theorem words_any {M : List Nat} {w : World} {m : MemM} {a : Acc} {wv dv av : Value} (hk : a.kind ≤ 4) (hm : U64s M w wv m.word) (hM : ∀ k, k ∈ M → k < w.heap.size) (hsm : m.word.length ≤ 1000000000) (ha : a.a < W64) (hb : a.b < W64) :
    Calls Tryd.prog 51 #[.agg #[.int .i64 m.T, .int .i64 m.C, wv], .agg #[.int .i64 a.kind, .int .i64 a.cell, .int .u64 a.a, .int .u64 a.b, dv, av]] w fun e w' =>
      ∃ wv', e = .returned (.tuple #[.agg #[.int .i64 m.T, .int .i64 m.C, wv'], .agg #[.int .u64 ((wordsM m a).2.n : Nat), .slice none 0 0, .bool false]]) ∧ Same [] w w' ∧ U64s M w' wv' (wordsM m a).1.word := by
  by_cases hin : 0 ≤ a.cell ∧ a.cell < m.word.length
  · obtain ⟨i, hi⟩ : ∃ i : Nat, a.cell = i := ⟨a.cell.toNat, by omega⟩
    have hil : i < m.word.length := by omega
    have hold : m.word[i]? = some (m.word.getD i 0) := by simp [hil]
    have hwm : wordsM m a = ({ m with word := m.word.set i (turnM a.kind (m.word.getD i 0) a.a a.b).2 }, { n := (turnM a.kind (m.word.getD i 0) a.a a.b).1 }) := by
      unfold wordsM; rw [if_pos hin, hi]; rfl
    obtain ⟨b, off, c, rfl⟩ : ∃ b off c, wv = .slice (some ⟨b, off, none⟩) m.word.length c := by
      obtain ⟨⟨p, l, c, rfl, h2, h3, h4, h5⟩, _⟩ := hm
      obtain rfl : l = m.word.length := by simpa using h2.symm
      rcases h5 with ⟨_, h5, _⟩ | ⟨b, off, rfl, _⟩
      · omega
      · exact ⟨b, off, c, rfl⟩
    rw [hwm, hi]
    generalize m.word.getD i 0 = old at hold ⊢
    obtain hk | hk | hk | hk | hk : a.kind = 0 ∨ a.kind = 1 ∨ a.kind = 2 ∨ a.kind = 3 ∨ a.kind = 4 := by omega
    · rw [hk]; exact words_in0 hm hM hold hsm ha hb
    · rw [hk]; exact words_in1 hm hM hold hsm ha hb
    · rw [hk]
      refine (words_in2 hm hM hold hsm ha hb rfl rfl).mono ?_
      rintro e w' ⟨v, h1, h2, h3⟩
      refine ⟨v, ?_, h2, ?_⟩
      · rw [h1]; by_cases h : old = a.a <;> simp [turnM, h]
      · by_cases h : old = a.a <;> simpa [turnM, h] using h3
    · rw [hk]; exact words_in3 hm hM hold hsm ha hb
    · rw [hk]; exact words_in4 hm hM hold hsm ha hb
  · have hwm : wordsM m a = (m, {}) := by unfold wordsM; rw [if_neg hin]
    rw [hwm]
    refine (words_out hm hin).mono ?_
    rintro e w' ⟨rfl, hs⟩
    exact ⟨wv, rfl, hs, hm.same hs (by simp)⟩

theorem Disk_any {w : World} {k : Nat} {b : Bool} (hb : (decide ((5 : Int) ≤ k) && decide ((k : Int) ≤ 12)) = b) : Calls Tryd.prog 48 #[.int .i64 k] w fun e w' => e = .returned (.bool b) ∧ w' = w := by
  by_cases h : (5 : Int) ≤ k
  · have g1 : decide ((5 : Int) ≤ k) = true := by simpa using h
    rw [g1, Bool.true_and] at hb
    have g2 := hb
    clear hb h
    go_enter Tryd.func48, Tryd.ntmps48
    go_wp2_with fail
    go_ret
    exact ⟨rfl, rfl⟩
  · have g1 : decide ((5 : Int) ≤ k) = false := by simpa using h
    rw [g1, Bool.false_and] at hb
    subst hb
    clear h
    go_enter Tryd.func48, Tryd.ntmps48
    go_wp2_with fail
    go_ret
    exact ⟨rfl, rfl⟩
end Go.Proofs.YtdfeinfaljidgaaDoor
