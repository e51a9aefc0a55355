/- A world whose words are written in place; the forms of values that read as worlds and answers. -/
import Derived.Test.YtdfeinfaljidgaaDoorNew
namespace Go.Proofs.YtdfeinfaljidgaaDoor
open Go Go.RowKit

theorem RWorld.forms {M : List Nat} {w : World} {v : Value} {x : WorldM} (h : RWorld M w v x) :
    ∃ ma ml mc ra rl rc sa sl sc, v = .agg #[.int .i64 x.mem.T, .int .i64 x.mem.C, .slice ma ml mc, .int .u64 x.disk.root, .slice ra rl rc, .slice sa sl sc] := by
  obtain ⟨wv, v0, v1, rfl, h1, h2, h3, _⟩ := h
  obtain ⟨ma, ml, mc, rfl⟩ := h1.form
  obtain ⟨ra, rl, rc, rfl⟩ : ∃ a l c, v0 = .slice a l c := by obtain ⟨_, _, h, _⟩ := h2; exact h.form
  obtain ⟨sa, sl, sc, rfl⟩ : ∃ a l c, v1 = .slice a l c := by obtain ⟨_, _, h, _⟩ := h3; exact h.form
  exact ⟨_, _, _, _, _, _, _, _, _, rfl⟩
theorem ROut.forms {M : List Nat} {w : World} {v : Value} {o : OutM} (h : ROut M w v o) : ∃ a l c, v = .agg #[.int .i64 o.err, .bool o.is, .int .i64 o.n, .int .u64 o.w, .slice a l c] := by
  obtain ⟨lv, rfl, h1, _⟩ := h
  obtain ⟨a, l, c, rfl⟩ := h1.form
  exact ⟨_, _, _, rfl⟩

section
variable {M : List Nat} {w : World} {x : WorldM} {T C rt : Int} {ma : Option Addr} {ml mc : Nat} {v0 v1 : Value}
theorem RWorld.words (h : RWorld M w (.agg #[.int .i64 T, .int .i64 C, .slice ma ml mc, .int .u64 rt, v0, v1]) x) : T = x.mem.T ∧ C = x.mem.C ∧ rt = x.disk.root ∧ ml = x.len ∧ U64s M w (.slice ma ml mc) x.mem.word := by
  obtain ⟨wv, v0', v1', e, h1, _⟩ := h
  simp only [Value.agg.injEq, Array.mk.injEq, List.cons.injEq, Value.int.injEq, true_and] at e
  obtain ⟨rfl, rfl, rfl, rfl, _⟩ := e
  refine ⟨rfl, rfl, rfl, ?_, h1⟩
  obtain ⟨a, l, c, e, h2, _⟩ := h1.sl
  simp only [Value.slice.injEq] at e
  obtain ⟨_, rfl, _⟩ := e
  simpa [WorldM.len] using h2.symm
theorem RWorld.at (h : RWorld M w (.agg #[.int .i64 T, .int .i64 C, .slice ma ml mc, .int .u64 rt, v0, v1]) x) (hl : 0 < x.len) :
    ∃ b off, ma = some ⟨b, off, none⟩ ∧ b < w.heap.size ∧ b ∉ M ∧ (∀ o, w.frozen? ⟨b, o, none⟩ = false) ∧ ∀ i, i < x.len → w.cell? ⟨b, off + i, none⟩ = some (.int .u64 (x.get i : Nat)) := by
  obtain ⟨_, _, _, hml, hu⟩ := h.words
  have hu' := hu
  obtain ⟨⟨a, l, c, e, h2, h3, h4, h5⟩, h6, h7⟩ := hu
  simp only [Value.slice.injEq] at e
  obtain ⟨rfl, rfl, rfl⟩ := e
  rcases h5 with ⟨_, h5, _⟩ | ⟨b, off, rfl, hr⟩
  · omega
  · obtain ⟨c, e, hc⟩ := h7 b (by simp [ownL_slice])
    refine ⟨b, off, rfl, lt_of_some hc, (hu'.own b (by simp [ownL_slice])).1, fun o => frozen_of_block hc, fun i hi => ?_⟩
    have := hr.cell (i := i) (by simpa [WorldM.len] using hi)
    rw [this]
    unfold WorldM.len at hi
    simp [WorldM.get, hi]
/-- A word is written in place. -/
theorem RWorld.poke {b off i n : Nat} (h : RWorld M w (.agg #[.int .i64 T, .int .i64 C, .slice (some ⟨b, off, none⟩) ml mc, .int .u64 rt, v0, v1]) x) (hi : i < x.len) (hn : n < W64) :
    RWorld M (w.setCell ⟨b, off + i, none⟩ (.int .u64 (n : Nat))) (.agg #[.int .i64 T, .int .i64 C, .slice (some ⟨b, off, none⟩) ml mc, .int .u64 rt, v0, v1]) (x.put i n) := by
  have hs : Same [b] w (w.setCell ⟨b, off + i, none⟩ (.int .u64 (n : Nat))) := (Same.refl _ _).set (.inl (by simp))
  obtain ⟨wv, v0', v1', e, h1, h2, h3, h4⟩ := h
  simp only [Value.agg.injEq, Array.mk.injEq, List.cons.injEq, Value.int.injEq, true_and] at e
  obtain ⟨rfl, rfl, rfl, rfl, rfl, rfl, _⟩ := e
  refine ⟨_, _, _, rfl, ?_, h2.same hs (by simp [ownL_slice]), h3.same hs (by simp [ownL_slice]), h4⟩
  obtain ⟨⟨a, l, c, e, g2, g3, g4, g5⟩, g6, g7⟩ := h1
  simp only [Value.slice.injEq] at e
  obtain ⟨rfl, rfl, rfl⟩ := e
  obtain ⟨cs, e, hc⟩ := g7 b (by simp [ownL_slice])
  rcases g5 with ⟨g5, _⟩ | ⟨b', off', e2, hm, cs', e', fr', hr, hcc⟩
  · cases g5
  · simp only [Option.some.injEq, Addr.mk.injEq, and_true] at e2
    obtain ⟨rfl, rfl⟩ := e2
    rw [hc] at hr
    simp only [Option.some.injEq, Obj.cells.injEq] at hr
    obtain ⟨rfl, rfl, rfl⟩ := hr
    unfold WorldM.len at hi
    have hset := block_set (o := off + i) (v := .int .u64 (n : Nat)) hc
    refine ⟨⟨_, _, _, rfl, by simpa [WorldM.put] using g2, g3, g4, .inr ⟨b, off, rfl, hm, _, _, _, hset, fun j hj => ?_⟩⟩, fun y hy => ?_, fun k hk => ?_⟩
    · simp only [WorldM.put, List.length_map, List.length_set] at hj
      rw [Array.getElem?_setIfInBounds]
      have hoi := hcc i (by simpa using hi)
      have hb : off + i < cs.size := by
        have hsome : cs[off + i]? = some (.int .u64 (x.mem.word[i] : Nat)) := by rw [hoi]; simp [hi]
        exact (Array.getElem?_eq_some_iff.1 hsome).1
      by_cases hij : i = j
      · subst hij; simp [WorldM.put, hb, hi]
      · rw [if_neg (by omega), hcc j (by simpa using hj)]
        simp [WorldM.put, hij]
    · simp only [WorldM.put] at hy
      rcases List.mem_or_eq_of_mem_set hy with h | h
      · exact g6 y h
      · exact h ▸ hn
    · simp only [ownL_slice, List.mem_singleton] at hk
      subst hk
      exact ⟨_, _, hset⟩
end
section
variable {M : List Nat} {w W : World} {x : WorldM} {T C rt : Int} {b i n ml mc : Nat} {v0 v1 : Value}
theorem poke_ready (h : RWorld M w (.agg #[.int .i64 T, .int .i64 C, .slice (some ⟨b, 0, none⟩) ml mc, .int .u64 rt, v0, v1]) x) (hi : i < x.len) :
    w.cell? ⟨b, i, none⟩ = some (.int .u64 (x.get i : Nat)) ∧ w.frozen? ⟨b, i, none⟩ = false ∧ (∀ L : Int, L = ml → ((i : Nat) : Int) < L) ∧ (0 : Int) ≤ ((i : Nat) : Int) ∧ x.get i < W64 := by
  obtain ⟨_, _, _, hml, hu⟩ := h.words
  obtain ⟨b', off, e, _, _, h1, h2⟩ := h.at (by omega)
  simp only [Option.some.injEq, Addr.mk.injEq, and_true] at e
  obtain ⟨rfl, rfl⟩ := e
  have := h2 i hi
  rw [Nat.zero_add] at this
  refine ⟨this, h1 i, fun L hL => by omega, by omega, ?_⟩
  unfold WorldM.len at hi
  simp only [WorldM.get, List.getD_eq_getElem?_getD, List.getElem?_eq_getElem hi, Option.getD_some]
  exact hu.2 _ (List.getElem_mem hi)
theorem poke_done (h : RWorld M w (.agg #[.int .i64 T, .int .i64 C, .slice (some ⟨b, 0, none⟩) ml mc, .int .u64 rt, v0, v1]) x) (hi : i < x.len) (hn : n < W64) (hW : W = (w.setCell ⟨b, i, none⟩ (.int .u64 (n : Nat))).drew) :
    RWorld M W (.agg #[.int .i64 T, .int .i64 C, .slice (some ⟨b, 0, none⟩) ml mc, .int .u64 rt, v0, v1]) (x.put i n) ∧ Same [b] w W := by
  have h1 := h.poke (i := i) (n := n) hi hn
  rw [Nat.zero_add] at h1
  subst hW
  exact ⟨h1.same ((Same.refl [] _).drew) (by simp), ((Same.refl _ _).set (.inl (by simp))).drew⟩
end
section
variable {M : List Nat} {w W : World} {x : WorldM} {T C rt : Int} {b off i n ml mc : Nat} {v0 v1 : Value}
theorem poke_ready2 (h : RWorld M w (.agg #[.int .i64 T, .int .i64 C, .slice (some ⟨b, off, none⟩) ml mc, .int .u64 rt, v0, v1]) x) (hi : i < x.len) :
    w.cell? ⟨b, off + i, none⟩ = some (.int .u64 (x.get i : Nat)) ∧ w.frozen? ⟨b, off + i, none⟩ = false ∧ (∀ L : Int, L = ml → ((i : Nat) : Int) < L) ∧ (0 : Int) ≤ ((i : Nat) : Int) ∧ b ∉ M := by
  obtain ⟨_, _, _, hml, hu⟩ := h.words
  obtain ⟨b', off', e, _, h0, h1, h2⟩ := h.at (by omega)
  simp only [Option.some.injEq, Addr.mk.injEq, and_true] at e
  obtain ⟨rfl, rfl⟩ := e
  exact ⟨h2 i hi, h1 (off + i), fun L hL => by omega, by omega, h0⟩
theorem poke_done2 (h : RWorld M w (.agg #[.int .i64 T, .int .i64 C, .slice (some ⟨b, off, none⟩) ml mc, .int .u64 rt, v0, v1]) x) (hi : i < x.len) (hn : n < W64) (hW : W = (w.setCell ⟨b, off + i, none⟩ (.int .u64 (n : Nat))).drew) :
    RWorld M W (.agg #[.int .i64 T, .int .i64 C, .slice (some ⟨b, off, none⟩) ml mc, .int .u64 rt, v0, v1]) (x.put i n) ∧ Same [b] w W := by
  have h1 := h.poke (i := i) (n := n) hi hn
  subst hW
  exact ⟨h1.same ((Same.refl [] _).drew) (by simp), ((Same.refl _ _).set (.inl (by simp))).drew⟩
end
theorem store6 {w : World} {p : Nat} {c0 c1 c2 c3 c4 c5 v0 v1 v2 v3 v4 v5 : Value} {e : TypeId} (h : w.heap[p]? = some (.cells #[c0, c1, c2, c3, c4, c5] e (0, 0))) :
    ((((((w.setCell ⟨p, 0, none⟩ v0).setCell ⟨p, 1, none⟩ v1).setCell ⟨p, 2, none⟩ v2).setCell ⟨p, 3, none⟩ v3).setCell ⟨p, 4, none⟩ v4).setCell ⟨p, 5, none⟩ v5).heap[p]? = some (.cells #[v0, v1, v2, v3, v4, v5] e (0, 0)) := by
  simp [set_at, h]
theorem cell_set_blk {w : World} {b p o q : Nat} {v : Value} (h : p ≠ b) : (w.setCell ⟨b, o, none⟩ v).cell? ⟨p, q, none⟩ = w.cell? ⟨p, q, none⟩ := World.cell?_setCell_other _ _ _ _ (fun e => h (by simp only [Addr.mk.injEq] at e; exact e.1.symm))
theorem u64_step {a b c : Nat} (h : a + b = c) (hc : c < W64) : IntKind.u64.wrap ((a : Int) + (b : Int)) = (c : Int) := by
  unfold W64 at hc
  rw [IntWalk.u64_in _ ⟨by omega, by omega⟩]; omega
theorem u64_same {a : Nat} (h : a < W64) : IntKind.u64.wrap (a : Int) = (a : Int) := by
  unfold W64 at h
  exact IntWalk.u64_in _ ⟨by omega, by omega⟩
theorem i64_same {a : Nat} (h : a < 9223372036854775808) : IntKind.i64.wrap (a : Int) = (a : Int) := by
  rw [IntKind.wrap_i64]; omega
/-- A region that ends in one frame, and one world, whatever its order. -/
def OneEnd (f : Act) (W : World) (a : Act) (w : World) : Prop := a = f ∧ w = W
def NoEnd : Exit → Act → World → Prop := fun _ _ _ => False
theorem wp_one {P : Program} {c : Code} {Q : Exit → Act → World → Prop} {a : Act} {w : World} (f : Act) (W : World) (h : c.wp P (Exit.then (OneEnd f W) NoEnd) a w) (hQ : Q .normal f W) : c.wp P Q a w := by
  refine wp_mono h ?_
  intro e a' w' hq
  cases e with
  | normal => obtain ⟨rfl, rfl⟩ := hq; exact hQ
  | exit id => exact hq.elim
  | goto l => exact hq.elim
  | ret => exact hq.elim
  | panic ch => exact hq.elim
  | outgrown => exact hq.elim
theorem rworld_new {w : World} {b b0 b1 t c : Nat} (ht : t ≤ 64) (hc : c ≤ 65536) (h0 : b < b0) (h1 : b < b1) (hw : w.heap[b]? = some (.cells (u64L (newWords t c)).toArray 27 (0, 0))) (hb0 : w.heap[b0]? = some (.cells (zeroStrs t).toArray 130 (0, 0))) (hb1 : w.heap[b1]? = some (.cells (zeroStrs t).toArray 130 (0, 0))) :
    RWorld [] w (.agg #[.int .i64 t, .int .i64 c, .slice (some ⟨b, 0, none⟩) (8 + t + 8 * c) (8 + t + 8 * c), .int .u64 0, .slice (some ⟨b0, 0, none⟩) t t, .slice (some ⟨b1, 0, none⟩) t t]) (newW t c) := by
  have hl : (newWords t c).length = 8 + t + 8 * c := newUpto_length t c c
  refine ⟨_, _, _, rfl, ⟨⟨_, _, _, rfl, by simp [newW, newM, hl], Nat.le_refl _, by omega, .inr ⟨b, 0, rfl, by simp, _, _, _, hw, fun i hi => ?_⟩⟩, newWords_lt hc, fun k hk => ?_⟩, rstrs_new (by simp [ownL_slice]; omega) hb0 ht, rstrs_new (by simp [ownL_slice]; omega) hb1 ht, (by decide : 0 < W64)⟩
  · rw [Nat.zero_add]; simp [u64L, newW, newM]
  · simp only [ownL_slice, List.mem_singleton] at hk
    subst hk
    exact ⟨_, _, hw⟩
end Go.Proofs.YtdfeinfaljidgaaDoor
