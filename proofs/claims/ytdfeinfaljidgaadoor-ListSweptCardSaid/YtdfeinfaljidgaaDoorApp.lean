/- append onto a slice without room to spare; slices.Clone. -/
import Derived.Test.YtdfeinfaljidgaaDoorCore
import Derived.Test.YtdfeinfaljidgaaDoorProg
import Derived.Deep.AppendSrc
import Derived.Deep.Upon
import Derived.OwnWalk
namespace Go.Proofs.YtdfeinfaljidgaaDoor
open Go Go.RowKit

theorem Sl.cells_at {M : List Nat} {w : World} {b off len cap sz : Nat} {cs : List Value} (h : Sl M w (.slice (some ⟨b, off, none⟩) len cap) sz cs) : ∀ j u, cs[j]? = some u → w.cell? ((⟨b, off, none⟩ : Addr).add j) = some u := by
  obtain ⟨a, l, c, h1, h2, h3, hcap, h4⟩ := h
  simp only [Value.slice.injEq] at h1
  obtain ⟨rfl, rfl, rfl⟩ := h1
  intro j u hj
  rcases h4 with ⟨h4, _⟩ | ⟨b', off', h4, h5⟩
  · cases h4
  · simp only [Option.some.injEq, Addr.mk.injEq, and_true] at h4
    obtain ⟨rfl, rfl⟩ := h4
    rw [Addr.add_lit]
    obtain ⟨hl, hv⟩ := List.getElem?_eq_some_iff.1 hj
    rw [h5.cell hl, hv]

/-- What a slice that reads as cs brings to an append. -/
theorem Sl.src {P : Program} {M : List Nat} {w : World} {x : Value} {sz : Nat} {cs : List Value} (h : Sl M w x sz cs) (h1 : ∀ u, u ∈ cs → u.oneCell' = true) {tx e' : TypeId} (hk : P.underlying tx = some (.slice e')) :
    ∃ n, cs.length = n * sz ∧ n ≤ 140737488355328 ∧ Src P sz tx x n cs w := by
  have h0 := h
  obtain ⟨a, l, c, rfl, h2, h3, hcap, h4⟩ := h
  refine ⟨l, h2, hcap, ?_⟩
  rcases h4 with ⟨rfl, rfl, rfl⟩ | ⟨b, off, rfl, h5⟩
  · have : cs = [] := List.eq_nil_of_length_eq_zero (by simpa using h2)
    subst this
    exact Src.ofNil w hk 0
  · exact Src.ofSlice w hk _ _ _ _ h2 h0.cells_at h1

/-- A slice of nothing, at a new block. -/
theorem Sl.empty {w : World} {e : TypeId} {sz : Nat} : Sl [] (w.alloc (.cells #[] e)) (.slice (some ⟨w.heap.size, 0, none⟩) 0 0) sz [] :=
  ⟨_, _, _, rfl, by simp, Nat.le_refl _, Nat.zero_le _, .inr ⟨_, _, rfl, by simp, _, _, _, block_new w _, fun i hi => by simp at hi⟩⟩

/-- append onto what has no room to spare: nothing is appended, or a new row is made. -/
theorem run_app_tight {P : Program} (w : World) (t ty e : TypeId) (i : TypeInfo) (z : Value) (sz bytes : Nat) (ht : P.underlying t = some (.slice e)) (hi : P.info? e = some i) (hz : i.zero = some z) (hsize : i.size = sz) (hby : i.bytes = bytes)
    {M M' : List Nat} {v x : Value} {olds news : List Value} (hv : Sl M w v sz olds) (hx : Sl M' w x sz news) (h1 : ∀ u, u ∈ news → u.oneCell' = true) (hM : ∀ k, k ∈ M → k < w.heap.size) (hsz : 0 < sz)
    {a : Option Addr} {len : Nat} (hva : v = .slice a len len) (hb : (olds.length + news.length) * bytes ≤ 140737488355328 * sz) (hlen : olds.length + news.length ≤ 140737488355328 * sz) :
    ∃ v' w', (Builtin.append_ #[t, t] ty #[v, x]).run P w = .ok v' w' ∧ Same [] w w' ∧ Sl M w' v' sz (olds ++ news) ∧ (news = [] → v' = v ∧ w' = w) ∧
      (news ≠ [] → ∃ c' more, v' = .slice (some ⟨w.heap.size, 0, none⟩) (len + news.length / sz) c' ∧ w'.heap[w.heap.size]? = some (.cells ((olds ++ news).toArray ++ more) e (0, 0)) ∧ len + news.length / sz ≤ c' ∧ w'.heap.size = w.heap.size + 1) := by
  subst hva
  obtain ⟨n, hn, hn2, hs⟩ := hx.src (P := P) h1 ht
  have hv0 := hv
  obtain ⟨a', l', c', hv1, hv2, _, hv4, hv5⟩ := hv
  simp only [Value.slice.injEq] at hv1
  obtain ⟨rfl, rfl, _⟩ := hv1
  subst hsize hby
  by_cases hn0 : n = 0
  · subst hn0
    have : news = [] := List.eq_nil_of_length_eq_zero (by simpa using hn)
    subst this
    refine ⟨_, _, run_append_nothing w t t ty e i ht hi a len len (Nat.le_refl _) x hs, Same.refl _ _, by simpa using hv0, fun _ => ⟨rfl, rfl⟩, fun h => absurd rfl h⟩
  · have hne : news ≠ [] := by
      intro h
      have h0 : n * i.size = 0 := by rw [← hn, h]; rfl
      rcases Nat.mul_eq_zero.1 h0 with h | h <;> omega
    have hln : (len + n) * i.size ≤ 140737488355328 * i.size := by rw [Nat.add_mul, ← hv2, ← hn]; exact hlen
    have hln2 : len + n ≤ 140737488355328 := Nat.le_of_mul_le_mul_right hln hsz
    have hbb : (len + n) * i.bytes ≤ 140737488355328 := by
      have : (len + n) * i.bytes * i.size ≤ 140737488355328 * i.size := by
        calc (len + n) * i.bytes * i.size = ((len + n) * i.size) * i.bytes := by rw [Nat.mul_right_comm]
          _ = (olds.length + news.length) * i.bytes := by rw [Nat.add_mul, ← hv2, ← hn]
          _ ≤ _ := hb
      exact Nat.le_of_mul_le_mul_right this hsz
    have hold : (Builtin.firstCells i.size len (.slice a len len)).run P w.drew = .ok olds.toArray w.drew := by
      rcases hv5 with ⟨rfl, rfl, _⟩ | ⟨b, off, rfl, hr⟩
      · have : olds = [] := List.eq_nil_of_length_eq_zero (by simpa using hv2)
        subst this
        exact run_firstCells_none w.drew i.size 0 0 0
      · exact run_firstCells_some w.drew i.size len _ len len olds hv2 (fun j u hj => hv0.cells_at j u hj)
    have hrun := run_append_grow_src (P := P) w t t ty e i z ht hi hz a len len olds hold x n news hs (by omega) (by omega) (growslice_fits (by omega) hbb)
    have hdiv : news.length / i.size = n := by rw [hn, Nat.mul_div_cancel _ hsz]
    have hblk : (w.drew.alloc (.cells ((olds ++ news).toArray ++ Builtin.zeroCells z.cells (grownCap w (len + n) len e - (len + n))) e)).heap[w.heap.size]? = some (.cells ((olds ++ news).toArray ++ Builtin.zeroCells z.cells (grownCap w (len + n) len e - (len + n))) e (0, 0)) := block_new w.drew _
    refine ⟨_, _, hrun, ((Same.refl [] w).drew).alloc _, ⟨_, _, _, rfl, by rw [List.length_append, hv2, hn, Nat.add_mul], grownCap_ge w (len + n) len e, hln2, .inr ⟨w.heap.size, 0, rfl, fun hm => by have := hM _ hm; omega, _, _, _, hblk, fun j hj => ?_⟩⟩, fun h => absurd h hne, fun _ => ⟨_, _, by rw [hdiv], hblk, by rw [hdiv]; exact grownCap_ge w (len + n) len e, by simp⟩⟩
    rw [Nat.zero_add, Array.getElem?_append_left (by simpa using hj), List.getElem?_toArray]

theorem wpList_app_tight {P : Program} {w : World} {ops : Array Oper} {rest : List Oper} {o : Oper} {ac : Act} {Q : Exit → Act → World → Prop} (hgd : o.guard = none) (so xo : Operand) (t : TypeId)
    (ho : o.op = .call { callee := .builtin .append, args := #[so, xo], argTypes := #[t, t] })
    (e : TypeId) (i : TypeInfo) (z : Value) (sz bytes : Nat) (ht : P.underlying t = some (.slice e)) (hi : P.info? e = some i) (hz : i.zero = some z) (hsize : i.size = sz) (hby : i.bytes = bytes)
    {M M' : List Nat} {v x : Value} {olds news : List Value} (hv : Sl M w v sz olds) (hx : Sl M' w x sz news) (h1 : ∀ u, u ∈ news → u.oneCell' = true) (hM : ∀ k, k ∈ M → k < w.heap.size) (hsz : 0 < sz)
    {a : Option Addr} {len : Nat} (hva : v = .slice a len len) (hb : (olds.length + news.length) * bytes ≤ 140737488355328 * sz) (hlen : olds.length + news.length ≤ 140737488355328 * sz) (hso : ac.eval so = v) (hxo : ac.eval xo = x)
    (h : ∀ v' w', Same [] w w' → Sl M w' v' sz (olds ++ news) → (news = [] → v' = v ∧ w' = w) →
      (news ≠ [] → ∃ c' more, v' = .slice (some ⟨w.heap.size, 0, none⟩) (len + news.length / sz) c' ∧ w'.heap[w.heap.size]? = some (.cells ((olds ++ news).toArray ++ more) e (0, 0)) ∧ len + news.length / sz ≤ c' ∧ w'.heap.size = w.heap.size + 1) → wpList P ops Q rest (ac.put o.dst v') w') : wpList P ops Q (o :: rest) ac w := by
  refine wpList_plain hgd fun K hK => ?_
  obtain ⟨v', w', hrun, g1, g2, g3, g4⟩ := run_app_tight (P := P) w t o.type e i z sz bytes ht hi hz hsize hby hv hx h1 hM hsz hva hb hlen
  unfold Oper.wp
  simp only [execOp, ho, resolve, invoke, builtin, Sem.run_bind, Sem.run_pure, Result.andThen_ok, List.map_toArray, List.map_cons, List.map_nil, hso, hxo, hrun]
  exact hK _ _ (h v' w' g1 g2 g3 g4)

@[go_sem] theorem und_words : Tryd.prog.underlying 24 = some (.slice 27) := by kernel_rfl
@[go_sem] theorem eql_words (b off l c : Nat) (w : World) : (binOp .eql 24 (.slice (some ⟨b, off, none⟩) l c) (.slice none 0 0)).run Tryd.prog w = .ok (.bool false) w := by kernel_rfl
theorem info_words : (Tryd.prog.info? 27).map (fun i => (i.zero, i.size, i.bytes)) = some (some (.int .u64 0), 1, 8) := by kernel_rfl

set_option maxRecDepth 100000 in
theorem clone_words {M : List Nat} {w : World} {v : Value} {xs : List Nat} (h : U64s M w v xs) (hM : ∀ k, k ∈ M → k < w.heap.size) (hne : xs ≠ []) (hsm : xs.length ≤ 1000000000) :
    Calls Tryd.prog 50 #[v] w fun e w' => ∃ b c' more, e = .returned (.slice (some ⟨b, 0, none⟩) xs.length c') ∧ Same [] w w' ∧ w.heap.size ≤ b ∧ w'.heap[b]? = some (.cells ((xs.map fun n : Nat => Value.int .u64 n).toArray ++ more) 27 (0, 0)) ∧ xs.length ≤ c' := by
  have h0 := h
  obtain ⟨⟨a, l, c, rfl, hl, hlc, hl2, ha⟩, hx⟩ := h0
  rcases ha with ⟨rfl, rfl, rfl⟩ | ⟨b, off, rfl, hr⟩
  · simp at hl; exact absurd hl hne
  have hll : l = xs.length := by simpa using hl.symm
  subst hll
  clear hr hl
  obtain ⟨i, hi, hz0, hz1, hz2⟩ := info_parts info_words
  have H := hid h; have HM := hid hM; clear h hM
  have hsl : Sl M (w.alloc (.cells #[] 27)) (.slice (some ⟨b, off, none⟩) xs.length c) 1 (xs.map fun n : Nat => Value.int .u64 n) := H.out.1.same ((Same.refl [] w).alloc _) (by simp)
  have h1 : ∀ u, u ∈ (xs.map fun n : Nat => Value.int .u64 n) → u.oneCell' = true := fun u hu => by obtain ⟨_, _, rfl⟩ := List.mem_map.1 hu; rfl
  have hne' : (xs.map fun n : Nat => Value.int .u64 n) ≠ [] := by simpa using hne
  have Hsl := hid hsl; have H1 := hid h1; have HN := hid hne'
  clear hsl h1 hne'
  go_enter Tryd.func50, Tryd.ntmps50
  go_wp2_with (at_builtin; refine wpList_app_tight rfl (.tmp 5) (.tmp 6) 24 rfl 27 i (.int .u64 0) 1 8 und_words hi hz0 hz1 hz2 Sl.empty Hsl.out H1.out (by simp) (by decide) rfl (by simp; omega) (by simp; omega) rfl rfl ?_; intro v' w' hs hv' _ hnew; obtain ⟨c', more, rfl, hb', hc', _⟩ := hnew HN.out)
  go_ret
  have hz : (w.alloc (.cells #[] 27)).heap.size = w.heap.size + 1 := by simp
  refine ⟨w.heap.size + 1, c', more, rfl, ((Same.refl [] w).alloc _).then hs, by omega, by simpa [hz] using hb', by simpa using hc'⟩

@[go_sem] theorem und_streams : Tryd.prog.underlying 28 = some (.slice 130) := by kernel_rfl
@[go_sem] theorem eql_streams (b off l c : Nat) (w : World) : (binOp .eql 28 (.slice (some ⟨b, off, none⟩) l c) (.slice none 0 0)).run Tryd.prog w = .ok (.bool false) w := by kernel_rfl
theorem info_streams : (Tryd.prog.info? 130).map (fun i => (i.zero, i.size, i.bytes)) = some (some (.agg #[.slice none 0 0, .int .i64 0]), 2, 32) := by kernel_rfl

set_option maxRecDepth 100000 in
theorem clone_streams {M : List Nat} {w : World} {b off n c : Nat} {cs : List Value} (h : Sl M w (.slice (some ⟨b, off, none⟩) n c) 2 cs) (h1 : ∀ u, u ∈ cs → u.oneCell' = true) (hne : cs ≠ []) (hsm : n ≤ 1000000000) :
    Calls Tryd.prog 86 #[.slice (some ⟨b, off, none⟩) n c] w fun e w' => ∃ b c' more, e = .returned (.slice (some ⟨b, 0, none⟩) n c') ∧ Same [] w w' ∧ w.heap.size ≤ b ∧ w'.heap[b]? = some (.cells (cs.toArray ++ more) 130 (0, 0)) ∧ n ≤ c' := by
  have hn : n ≠ 0 ∧ cs.length = n * 2 ∧ n ≤ c ∧ n ≤ 140737488355328 := by
    obtain ⟨a, l, c', h1, h2, h3, h4, _⟩ := h
    simp only [Value.slice.injEq] at h1
    obtain ⟨_, rfl, rfl⟩ := h1
    refine ⟨fun h => hne (List.eq_nil_of_length_eq_zero (by rw [h2, h])), h2, h3, h4⟩
  obtain ⟨hn0, hn1, hn2, hn3⟩ := hn
  have hdv : cs.length / 2 = n := by omega
  obtain ⟨i, hi, hz0, hz1, hz2⟩ := info_parts info_streams
  have hsl := h.same ((Same.refl [] w).alloc (.cells #[] 130)) (by simp)
  have Hsl := hid hsl; have H1 := hid h1; have HN := hid hne; have HD := hid hdv; have HL := hid hn1
  clear hsl h1 hne h hdv hn1
  go_enter Tryd.func86, Tryd.ntmps86
  go_wp2_with (at_builtin; refine wpList_app_tight rfl (.tmp 5) (.tmp 6) 28 rfl 130 i _ 2 32 und_streams hi hz0 hz1 hz2 Sl.empty Hsl.out H1.out (by simp) (by decide) rfl (by have := HL.out; simp; omega) (by have := HL.out; simp; omega) rfl rfl ?_; intro v' w' hs hv' _ hnew; obtain ⟨c', more, rfl, hb', hc', _⟩ := hnew HN.out; rw [HD.out, Nat.zero_add] at hc' ⊢)
  go_ret
  have hz : (w.alloc (.cells #[] 130)).heap.size = w.heap.size + 1 := by simp
  refine ⟨w.heap.size + 1, c', more, rfl, ((Same.refl [] w).alloc _).then hs, by omega, by simpa [hz] using hb', hc'⟩
end Go.Proofs.YtdfeinfaljidgaaDoor
