/- Data, readers, frames of memory and programs as trees of accesses: plain Lean over the model's worlds; no program in sight. -/
import Derived.Below
import Derived.WalkKit
import Derived.Deep.Draws
namespace Go.Proofs.YtdfeinfaljidgaaDoor
open Go Go.RowKit

/-- A fact kept from the walk. -/
theorem hid {p : Prop} (h : p) : Hid p := h

/-- 'w'' is w with new blocks, and writes to the blocks in D alone. -/
structure Same (D : List Nat) (w w' : World) : Prop where
  os : w'.os = w.os
  tape : w'.tape = w.tape
  output : w'.output = w.output
  size : w.heap.size ≤ w'.heap.size
  block : ∀ k, k < w.heap.size → k ∉ D → w'.heap[k]? = w.heap[k]?

theorem Same.refl (D : List Nat) (w : World) : Same D w w := ⟨rfl, rfl, rfl, Nat.le_refl _, fun _ _ _ => rfl⟩
theorem Same.trans {D D' : List Nat} {a b c : World} (h : Same D a b) (k : Same D' b c) (hD : ∀ x, x ∈ D' → x ∈ D ∨ a.heap.size ≤ x) : Same D a c :=
  ⟨k.os.trans h.os, k.tape.trans h.tape, k.output.trans h.output, Nat.le_trans h.size k.size, fun i hi hn =>
    (k.block i (Nat.lt_of_lt_of_le hi h.size) (fun hm => by rcases hD i hm with h1 | h1; exact hn h1; omega)).trans (h.block i hi hn)⟩
theorem Same.mono {D D' : List Nat} {a b : World} (h : Same D a b) (hD : ∀ x, x ∈ D → x ∈ D' ∨ a.heap.size ≤ x) : Same D' a b :=
  ⟨h.os, h.tape, h.output, h.size, fun i hi hn => h.block i hi (fun hm => by rcases hD i hm with h1 | h1; exact hn h1; omega)⟩
theorem Same.then {D : List Nat} {a b c : World} (h : Same D a b) (k : Same D b c) : Same D a c := h.trans k fun _ hx => .inl hx
theorem Same.thenKeep {D : List Nat} {a b c : World} (h : Same D a b) (k : Same [] b c) : Same D a c := h.trans k (by simp)
theorem Same.alloc {D : List Nat} {a w : World} (h : Same D a w) (o : Obj) : Same D a (w.alloc o) :=
  ⟨h.os, h.tape, h.output, Nat.le_trans h.size (by simp), fun k hk hn => (Below.heap_alloc w o k (Nat.lt_of_lt_of_le hk h.size)).trans (h.block k hk hn)⟩
theorem Same.setCell {D : List Nat} {a w : World} (h : Same D a w) {p : Addr} (hp : p.block ∈ D ∨ a.heap.size ≤ p.block) (u : Value) : Same D a (w.setCell p u) :=
  ⟨h.os, h.tape, h.output, by simpa [World.setCell] using h.size, fun k hk hn => (Below.heap_setCell w p u k (by rintro rfl; rcases hp with h1 | h1; exact hn h1; omega)).trans (h.block k hk hn)⟩
theorem Same.set {D : List Nat} {a w : World} {b o : Nat} {u : Value} (h : Same D a w) (hb : b ∈ D ∨ a.heap.size ≤ b) : Same D a (w.setCell ⟨b, o, none⟩ u) := h.setCell hb u
theorem Same.drewN {D : List Nat} {a w : World} (h : Same D a w) (n : Nat) : Same D a (w.drewN n) := ⟨h.os, h.tape, h.output, h.size, h.block⟩
theorem Same.drew {D : List Nat} {a w : World} (h : Same D a w) : Same D a w.drew := ⟨h.os, h.tape, h.output, h.size, h.block⟩

theorem Same.of_below {w w' : World} (h : Below w.heap.size w w') : Same [] w w' := ⟨h.os, h.tape, h.output, h.size, fun k hk _ => h.block k hk⟩
theorem Same.below {w w' : World} (h : Same [] w w') : Below w.heap.size w w' := ⟨h.os, h.tape, h.output, h.size, fun k hk => h.block k hk (by simp)⟩
theorem Same.cell {D : List Nat} {w w' : World} (h : Same D w w') {p : Addr} (hp : p.block < w.heap.size) (hn : p.block ∉ D) : w'.cell? p = w.cell? p := World.cell?_of_block (w := w) (h.block p.block hp hn)
theorem Same.frozen {D : List Nat} {w w' : World} (h : Same D w w') {p : Addr} (hp : p.block < w.heap.size) (hn : p.block ∉ D) : w'.frozen? p = w.frozen? p := World.frozen?_of_block (w := w) (h.block p.block hp hn)

/-- Block b (none of M) holds the cells cs from off on. -/
def Row (M : List Nat) (w : World) (b off : Nat) (cs : List Value) : Prop :=
  b ∉ M ∧ ∃ c e fr, w.heap[b]? = some (.cells c e fr) ∧ ∀ i, i < cs.length → c[off + i]? = cs[i]?

theorem lt_of_some {α : Type} {a : Array α} {k : Nat} {x : α} (h : a[k]? = some x) : k < a.size := (Array.getElem?_eq_some_iff.1 h).1

theorem Row.lt {M : List Nat} {w : World} {b off : Nat} {cs : List Value} (h : Row M w b off cs) : b < w.heap.size := by
  obtain ⟨_, c, e, fr, h, _⟩ := h; exact lt_of_some h
theorem Row.cell {M : List Nat} {w : World} {b off : Nat} {cs : List Value} (h : Row M w b off cs) {i : Nat} (hi : i < cs.length) : w.cell? ⟨b, off + i, none⟩ = some (cs[i]'hi) := by
  obtain ⟨_, c, e, fr, h, hc⟩ := h
  have := hc i hi
  simp only [World.cell?, h]
  simpa [List.getElem?_eq_getElem hi] using this
theorem Row.same {M D : List Nat} {w w' : World} {b off : Nat} {cs : List Value} (h : Row M w b off cs) (hs : Same D w w') (hD : ∀ x, x ∈ D → x ∈ M) : Row M w' b off cs := by
  have hlt := h.lt
  obtain ⟨hm, c, e, fr, h, hc⟩ := h
  exact ⟨hm, c, e, fr, (hs.block b hlt (fun x => hm (hD b x))).trans h, hc⟩
theorem Row.grow {M M' : List Nat} {w : World} {b off : Nat} {cs : List Value} (h : Row M w b off cs) (hM : ∀ x, x ∈ M' → x ∈ M ∨ w.heap.size ≤ x) : Row M' w b off cs := by
  have hlt := h.lt
  obtain ⟨hm, rest⟩ := h
  exact ⟨fun x => by rcases hM b x with h1 | h1; exact hm h1; omega, rest⟩

theorem block_at {w : World} {o : Obj} {b : Nat} (h : b = w.heap.size) : (w.alloc o).heap[b]? = some o := by
  subst h
  show (w.heap.push o)[w.heap.size]? = _
  simp
theorem heap_alloc (w : World) (o : Obj) : (w.alloc o).heap = w.heap.push o := rfl
theorem calls_gen {P : Program} {f : FuncId} {args : Array Value} {w : World} {R : Ending → World → Prop} (h : ∀ W, W = w → Calls P f args W R) : Calls P f args w R := h w rfl
theorem wp_gen {P : Program} {c : Code} {Q : Exit → Act → World → Prop} {a : Act} {w : World} (h : ∀ W, W = w → c.wp P Q a W) : c.wp P Q a w := h w rfl
theorem block_new (w : World) (o : Obj) : (w.alloc o).heap[w.heap.size]? = some o := by
  show (w.heap.push o)[w.heap.size]? = _
  simp
theorem block_old {w : World} {o x : Obj} {b : Nat} (h : w.heap[b]? = some x) : (w.alloc o).heap[b]? = some x := (Below.heap_alloc w o b (lt_of_some h)).trans h
theorem cell_of_block {w : World} {b o : Nat} {c : Array Value} {e : TypeId} {fr : Nat × Nat} {v : Value} (h : w.heap[b]? = some (.cells c e fr)) (hv : c[o]? = some v) : w.cell? ⟨b, o, none⟩ = some v := by
  simp [World.cell?, h, hv]
theorem cells2 {w : World} {b : Nat} {e : TypeId} {fr : Nat × Nat} {v0 v1 : Value} (h : w.heap[b]? = some (.cells #[v0, v1] e fr)) : w.cell? ⟨b, 0, none⟩ = some v0 ∧ w.cell? ⟨b, 1, none⟩ = some v1 := ⟨cell_of_block h rfl, cell_of_block h rfl⟩
theorem cells3 {w : World} {b : Nat} {e : TypeId} {fr : Nat × Nat} {v0 v1 v2 : Value} (h : w.heap[b]? = some (.cells #[v0, v1, v2] e fr)) : w.cell? ⟨b, 0, none⟩ = some v0 ∧ w.cell? ⟨b, 1, none⟩ = some v1 ∧ w.cell? ⟨b, 2, none⟩ = some v2 := ⟨cell_of_block h rfl, cell_of_block h rfl, cell_of_block h rfl⟩
theorem cells4 {w : World} {b : Nat} {e : TypeId} {fr : Nat × Nat} {v0 v1 v2 v3 : Value} (h : w.heap[b]? = some (.cells #[v0, v1, v2, v3] e fr)) : w.cell? ⟨b, 0, none⟩ = some v0 ∧ w.cell? ⟨b, 1, none⟩ = some v1 ∧ w.cell? ⟨b, 2, none⟩ = some v2 ∧ w.cell? ⟨b, 3, none⟩ = some v3 := ⟨cell_of_block h rfl, cell_of_block h rfl, cell_of_block h rfl, cell_of_block h rfl⟩
theorem cells5 {w : World} {b : Nat} {e : TypeId} {fr : Nat × Nat} {v0 v1 v2 v3 v4 : Value} (h : w.heap[b]? = some (.cells #[v0, v1, v2, v3, v4] e fr)) : w.cell? ⟨b, 0, none⟩ = some v0 ∧ w.cell? ⟨b, 1, none⟩ = some v1 ∧ w.cell? ⟨b, 2, none⟩ = some v2 ∧ w.cell? ⟨b, 3, none⟩ = some v3 ∧ w.cell? ⟨b, 4, none⟩ = some v4 := ⟨cell_of_block h rfl, cell_of_block h rfl, cell_of_block h rfl, cell_of_block h rfl, cell_of_block h rfl⟩
theorem cells6 {w : World} {b : Nat} {e : TypeId} {fr : Nat × Nat} {v0 v1 v2 v3 v4 v5 : Value} (h : w.heap[b]? = some (.cells #[v0, v1, v2, v3, v4, v5] e fr)) : w.cell? ⟨b, 0, none⟩ = some v0 ∧ w.cell? ⟨b, 1, none⟩ = some v1 ∧ w.cell? ⟨b, 2, none⟩ = some v2 ∧ w.cell? ⟨b, 3, none⟩ = some v3 ∧ w.cell? ⟨b, 4, none⟩ = some v4 ∧ w.cell? ⟨b, 5, none⟩ = some v5 := ⟨cell_of_block h rfl, cell_of_block h rfl, cell_of_block h rfl, cell_of_block h rfl, cell_of_block h rfl, cell_of_block h rfl⟩
theorem cells12 {w : World} {b : Nat} {e : TypeId} {fr : Nat × Nat} {v0 v1 v2 v3 v4 v5 v6 v7 v8 v9 v10 v11 : Value} (h : w.heap[b]? = some (.cells #[v0, v1, v2, v3, v4, v5, v6, v7, v8, v9, v10, v11] e fr)) : w.cell? ⟨b, 0, none⟩ = some v0 ∧ w.cell? ⟨b, 1, none⟩ = some v1 ∧ w.cell? ⟨b, 2, none⟩ = some v2 ∧ w.cell? ⟨b, 3, none⟩ = some v3 ∧ w.cell? ⟨b, 4, none⟩ = some v4 ∧ w.cell? ⟨b, 5, none⟩ = some v5 ∧ w.cell? ⟨b, 6, none⟩ = some v6 ∧ w.cell? ⟨b, 7, none⟩ = some v7 ∧ w.cell? ⟨b, 8, none⟩ = some v8 ∧ w.cell? ⟨b, 9, none⟩ = some v9 ∧ w.cell? ⟨b, 10, none⟩ = some v10 ∧ w.cell? ⟨b, 11, none⟩ = some v11 := ⟨cell_of_block h rfl, cell_of_block h rfl, cell_of_block h rfl, cell_of_block h rfl, cell_of_block h rfl, cell_of_block h rfl, cell_of_block h rfl, cell_of_block h rfl, cell_of_block h rfl, cell_of_block h rfl, cell_of_block h rfl, cell_of_block h rfl⟩
theorem frozen_of_block {w : World} {b o : Nat} {c : Array Value} {e : TypeId} (h : w.heap[b]? = some (.cells c e (0, 0))) : w.frozen? ⟨b, o, none⟩ = false := by
  simp [World.frozen?, h]
theorem block_set {w : World} {b o : Nat} {c : Array Value} {e : TypeId} {fr : Nat × Nat} {v : Value} (h : w.heap[b]? = some (.cells c e fr)) : (w.setCell ⟨b, o, none⟩ v).heap[b]? = some (.cells (c.setIfInBounds o v) e fr) := by
  simp [World.setCell, Array.getElem?_modify, h]
theorem block_set_other {w : World} {b b' o : Nat} {v : Value} (h : b ≠ b') : (w.setCell ⟨b', o, none⟩ v).heap[b]? = w.heap[b]? := Below.heap_setCell _ _ _ _ h
theorem cell_set_off (w : World) (b o p : Nat) (v : Value) (h : p ≠ o) : (w.setCell ⟨b, o, none⟩ v).cell? ⟨b, p, none⟩ = w.cell? ⟨b, p, none⟩ := by
  unfold World.cell? World.setCell
  simp only [Array.getElem?_modify, if_pos]
  cases hw : w.heap[b]? with
  | none => rfl
  | some x => cases x <;> simp [Ne.symm h]

/-- A slice value that reads as elements of sz cells each, all cells one behind the other: cs. -/
def Sl (M : List Nat) (w : World) (v : Value) (sz : Nat) (cs : List Value) : Prop :=
  ∃ (a : Option Addr) (len cap : Nat), v = .slice a len cap ∧ cs.length = len * sz ∧ len ≤ cap ∧ len ≤ 140737488355328 ∧
    ((a = none ∧ len = 0 ∧ cap = 0) ∨ ∃ b off, a = some ⟨b, off, none⟩ ∧ Row M w b off cs)

theorem Sl.same {M D : List Nat} {w w' : World} {v : Value} {sz : Nat} {cs : List Value} (h : Sl M w v sz cs) (hs : Same D w w') (hD : ∀ x, x ∈ D → x ∈ M) : Sl M w' v sz cs := by
  obtain ⟨a, len, cap, h1, h2, h3, hcap, h4⟩ := h
  refine ⟨a, len, cap, h1, h2, h3, hcap, ?_⟩
  rcases h4 with h4 | ⟨b, off, h4, h5⟩
  · exact .inl h4
  · exact .inr ⟨b, off, h4, h5.same hs hD⟩
theorem Sl.grow {M M' : List Nat} {w : World} {v : Value} {sz : Nat} {cs : List Value} (h : Sl M w v sz cs) (hM : ∀ x, x ∈ M' → x ∈ M ∨ w.heap.size ≤ x) : Sl M' w v sz cs := by
  obtain ⟨a, len, cap, h1, h2, h3, hcap, h4⟩ := h
  refine ⟨a, len, cap, h1, h2, h3, hcap, ?_⟩
  rcases h4 with h4 | ⟨b, off, h4, h5⟩
  · exact .inl h4
  · exact .inr ⟨b, off, h4, h5.grow hM⟩
theorem Sl.nil (M : List Nat) (w : World) (sz : Nat) : Sl M w (.slice none 0 0) sz [] := ⟨none, 0, 0, rfl, by simp, Nat.le_refl _, by omega, .inl ⟨rfl, rfl, rfl⟩⟩

theorem Sl.form {M : List Nat} {w : World} {v : Value} {sz : Nat} {cs : List Value} (h : Sl M w v sz cs) : ∃ a l c, v = .slice a l c := by
  obtain ⟨a, l, c, h, _⟩ := h; exact ⟨a, l, c, h⟩

def W64 : Nat := 18446744073709551616

/-- The block of a row. -/
def ownL (v : Value) : List Nat := match v.ownBlock with | some b => [b] | none => []

theorem ownL_slice (b o l c : Nat) : ownL (.slice (some ⟨b, o, none⟩) l c) = [b] := rfl
theorem ownL_nil (l c : Nat) : ownL (.slice none l c) = [] := rfl

/-- What holds the row can be written. -/
def NoFr (w : World) (v : Value) : Prop := ∀ b, b ∈ ownL v → ∃ c e, w.heap[b]? = some (.cells c e (0, 0))
theorem Sl.own {M : List Nat} {w : World} {v : Value} {sz : Nat} {cs : List Value} (h : Sl M w v sz cs) : ∀ k, k ∈ ownL v → k ∉ M ∧ k < w.heap.size := by
  obtain ⟨a, l, c, rfl, _, _, _, h4⟩ := h
  rcases h4 with ⟨rfl, _, _⟩ | ⟨b, off, rfl, hr⟩
  · intro k hk; simp [ownL_nil] at hk
  · intro k hk
    simp only [ownL_slice, List.mem_singleton] at hk
    subst hk
    exact ⟨hr.1, hr.lt⟩
/-- []uint64, in memory that can be written. -/
structure U64s (M : List Nat) (w : World) (v : Value) (xs : List Nat) : Prop where
  sl : Sl M w v 1 (xs.map fun n : Nat => Value.int .u64 n)
  lt : ∀ x, x ∈ xs → x < W64
  ow : NoFr w v
/-- []byte. -/
def Bytes (M : List Nat) (w : World) (v : Value) (bs : List UInt8) : Prop := Sl M w v 1 (bs.map fun n : UInt8 => Value.int .u8 n.toNat)
/-- []int. -/
def Ints (M : List Nat) (w : World) (v : Value) (xs : List Int) : Prop := Sl M w v 1 (xs.map fun n : Int => Value.int .i64 n)

theorem U64s.same {M D : List Nat} {w w' : World} {v : Value} {xs : List Nat} (h : U64s M w v xs) (hs : Same D w w') (hD : ∀ x, x ∈ D → x ∈ M) : U64s M w' v xs := ⟨h.1.same hs hD, h.2, fun b hb => by obtain ⟨c, e, h3⟩ := h.3 b hb; exact ⟨c, e, (hs.block b (h.1.own b hb).2 (fun hm => (h.1.own b hb).1 (hD b hm))).trans h3⟩⟩
theorem U64s.grow {M M' : List Nat} {w : World} {v : Value} {xs : List Nat} (h : U64s M w v xs) (hM : ∀ x, x ∈ M' → x ∈ M ∨ w.heap.size ≤ x) : U64s M' w v xs := ⟨h.1.grow hM, h.2, h.3⟩
theorem U64s.nil (M : List Nat) (w : World) : U64s M w (.slice none 0 0) [] := ⟨Sl.nil M w 1, by simp, fun b hb => by simp [ownL_nil] at hb⟩
theorem Bytes.same {M D : List Nat} {w w' : World} {v : Value} {xs : List UInt8} (h : Bytes M w v xs) (hs : Same D w w') (hD : ∀ x, x ∈ D → x ∈ M) : Bytes M w' v xs := Sl.same h hs hD
theorem Bytes.grow {M M' : List Nat} {w : World} {v : Value} {xs : List UInt8} (h : Bytes M w v xs) (hM : ∀ x, x ∈ M' → x ∈ M ∨ w.heap.size ≤ x) : Bytes M' w v xs := Sl.grow h hM
theorem Bytes.form {M : List Nat} {w : World} {v : Value} {xs : List UInt8} (h : Bytes M w v xs) : ∃ a l c, v = .slice a l c := Sl.form h
theorem U64s.form {M : List Nat} {w : World} {v : Value} {xs : List Nat} (h : U64s M w v xs) : ∃ a l c, v = .slice a l c := Sl.form h.1
theorem Ints.form {M : List Nat} {w : World} {v : Value} {xs : List Int} (h : Ints M w v xs) : ∃ a l c, v = .slice a l c := Sl.form h
theorem Bytes.nil (M : List Nat) (w : World) : Bytes M w (.slice none 0 0) [] := Sl.nil M w 1
theorem Ints.same {M D : List Nat} {w w' : World} {v : Value} {xs : List Int} (h : Ints M w v xs) (hs : Same D w w') (hD : ∀ x, x ∈ D → x ∈ M) : Ints M w' v xs := Sl.same h hs hD
theorem Ints.grow {M M' : List Nat} {w : World} {v : Value} {xs : List Int} (h : Ints M w v xs) (hM : ∀ x, x ∈ M' → x ∈ M ∨ w.heap.size ≤ x) : Ints M' w v xs := Sl.grow h hM
theorem Ints.nil (M : List Nat) (w : World) : Ints M w (.slice none 0 0) [] := Sl.nil M w 1

theorem U64s.own {M : List Nat} {w : World} {v : Value} {xs : List Nat} (h : U64s M w v xs) : ∀ k, k ∈ ownL v → k ∉ M ∧ k < w.heap.size := h.1.own
/-- All blocks but the words' own. -/
def mostL (w : World) (v : Value) : List Nat := (List.range w.heap.size).filter fun k => !(ownL v).contains k
theorem mem_mostL {w : World} {v : Value} {k : Nat} : k ∈ mostL w v ↔ k < w.heap.size ∧ k ∉ ownL v := by simp [mostL]
theorem U64s.most {M : List Nat} {w : World} {v : Value} {xs : List Nat} (h : U64s M w v xs) : U64s (mostL w v) w v xs := by
  obtain ⟨⟨a, l, c, rfl, h1, h2, h3, h4⟩, h5, h6⟩ := h
  refine ⟨⟨a, l, c, rfl, h1, h2, h3, ?_⟩, h5, h6⟩
  rcases h4 with h4 | ⟨b, off, rfl, hr⟩
  · exact .inl h4
  · exact .inr ⟨b, off, rfl, fun hm => (mem_mostL.1 hm).2 (by simp [ownL_slice]), hr.2⟩

/-- api.Access, api.Result, api.Out, api.Op, api.Stream, api.World as plain data. -/
structure Acc where
  kind : Nat
  cell : Int := 0
  a : Nat := 0
  b : Nat := 0
  data : List UInt8 := []
  word : List Nat := []
  deriving DecidableEq
structure Res where
  n : Nat := 0
  b : List UInt8 := []
  fail : Bool := false
  deriving DecidableEq
structure OutM where
  err : Nat := 0
  is : Bool := false
  n : Int := 0
  w : Nat := 0
  list : List Int := []
  deriving DecidableEq
structure OpM where
  kind : Int
  u : Int := 0
  v : Int := 0
  w : Nat := 0
  deriving DecidableEq
structure StreamM where
  data : List UInt8 := []
  synced : Int := 0
  deriving DecidableEq
structure DiskM where
  root : Nat
  row0 : List StreamM
  row1 : List StreamM
  deriving DecidableEq
structure MemM where
  T : Int
  C : Int
  word : List Nat
  deriving DecidableEq
structure WorldM where
  mem : MemM
  disk : DiskM
  deriving DecidableEq

def accCells (a : Acc) (dv wv : Value) : Array Value := #[.int .i64 a.kind, .int .i64 a.cell, .int .u64 a.a, .int .u64 a.b, dv, wv]
/-- The value av reads as the access a. -/
def RAcc (M : List Nat) (w : World) (av : Value) (a : Acc) : Prop :=
  ∃ dv wv, av = .agg #[.int .i64 a.kind, .int .i64 a.cell, .int .u64 a.a, .int .u64 a.b, dv, wv] ∧ Bytes M w dv a.data ∧ U64s M w wv a.word ∧ a.a < W64 ∧ a.b < W64 ∧ a.kind ≤ 13
def RRes (M : List Nat) (w : World) (rv : Value) (r : Res) : Prop :=
  ∃ bv, rv = .agg #[.int .u64 r.n, bv, .bool r.fail] ∧ Bytes M w bv r.b ∧ r.n < W64
def ROut (M : List Nat) (w : World) (ov : Value) (o : OutM) : Prop :=
  ∃ lv, ov = .agg #[.int .i64 o.err, .bool o.is, .int .i64 o.n, .int .u64 o.w, lv] ∧ Ints M w lv o.list ∧ o.w < W64

theorem RAcc.same {M D : List Nat} {w w' : World} {v : Value} {a : Acc} (h : RAcc M w v a) (hs : Same D w w') (hD : ∀ x, x ∈ D → x ∈ M) : RAcc M w' v a := by
  obtain ⟨dv, wv, h1, h2, h3, h4⟩ := h; exact ⟨dv, wv, h1, h2.same hs hD, h3.same hs hD, h4⟩
theorem RAcc.grow {M M' : List Nat} {w : World} {v : Value} {a : Acc} (h : RAcc M w v a) (hM : ∀ x, x ∈ M' → x ∈ M ∨ w.heap.size ≤ x) : RAcc M' w v a := by
  obtain ⟨dv, wv, h1, h2, h3, h4⟩ := h; exact ⟨dv, wv, h1, h2.grow hM, h3.grow hM, h4⟩
theorem RRes.same {M D : List Nat} {w w' : World} {v : Value} {a : Res} (h : RRes M w v a) (hs : Same D w w') (hD : ∀ x, x ∈ D → x ∈ M) : RRes M w' v a := by
  obtain ⟨dv, h1, h2, h3⟩ := h; exact ⟨dv, h1, h2.same hs hD, h3⟩
theorem RRes.grow {M M' : List Nat} {w : World} {v : Value} {a : Res} (h : RRes M w v a) (hM : ∀ x, x ∈ M' → x ∈ M ∨ w.heap.size ≤ x) : RRes M' w v a := by
  obtain ⟨dv, h1, h2, h3⟩ := h; exact ⟨dv, h1, h2.grow hM, h3⟩
theorem ROut.same {M D : List Nat} {w w' : World} {v : Value} {a : OutM} (h : ROut M w v a) (hs : Same D w w') (hD : ∀ x, x ∈ D → x ∈ M) : ROut M w' v a := by
  obtain ⟨dv, h1, h2, h3⟩ := h; exact ⟨dv, h1, h2.same hs hD, h3⟩
theorem ROut.grow {M M' : List Nat} {w : World} {v : Value} {a : OutM} (h : ROut M w v a) (hM : ∀ x, x ∈ M' → x ∈ M ∨ w.heap.size ≤ x) : ROut M' w v a := by
  obtain ⟨dv, h1, h2, h3⟩ := h; exact ⟨dv, h1, h2.grow hM, h3⟩

/-- []api.Result. -/
def resCells (l : List (Res × Value)) : List Value := l.flatMap fun p => [.int .u64 (p.1.n : Nat), p.2, .bool p.1.fail]
def RLog (M : List Nat) (w : World) (v : Value) (log : List Res) : Prop :=
  ∃ l : List (Res × Value), l.map (·.1) = log ∧ Sl M w v 3 (resCells l) ∧ ∀ p, p ∈ l → Bytes M w p.2 p.1.b ∧ p.1.n < W64
theorem resCells_length (l : List (Res × Value)) : (resCells l).length = l.length * 3 := by
  induction l with
  | nil => rfl
  | cons a l ih => simp only [resCells, List.flatMap_cons, List.length_append, List.length_cons, List.length_nil] at ih ⊢; omega
theorem resCells_at (l : List (Res × Value)) (i : Nat) (hi : i < l.length) : (resCells l)[i * 3]? = some (.int .u64 (l[i].1.n : Nat)) ∧ (resCells l)[i * 3 + 1]? = some l[i].2 ∧ (resCells l)[i * 3 + 2]? = some (.bool l[i].1.fail) := by
  induction l generalizing i with
  | nil => simp at hi
  | cons a l ih =>
    cases i with
    | zero => simp [resCells]
    | succ i =>
      have h := ih i (by simpa using hi)
      have e : resCells (a :: l) = [.int .u64 (a.1.n : Nat), a.2, .bool a.1.fail] ++ resCells l := by simp [resCells]
      rw [e]
      refine ⟨?_, ?_, ?_⟩
      · rw [List.getElem?_append_right (by simp; omega)]; simpa [show (i + 1) * 3 - 3 = i * 3 from by omega] using h.1
      · rw [List.getElem?_append_right (by simp; omega)]; simpa [show (i + 1) * 3 + 1 - 3 = i * 3 + 1 from by omega] using h.2.1
      · rw [List.getElem?_append_right (by simp; omega)]; simpa [show (i + 1) * 3 + 2 - 3 = i * 3 + 2 from by omega] using h.2.2
theorem RLog.same {M D : List Nat} {w w' : World} {v : Value} {log : List Res} (h : RLog M w v log) (hs : Same D w w') (hD : ∀ x, x ∈ D → x ∈ M) : RLog M w' v log := by
  obtain ⟨l, h1, h2, h3⟩ := h; exact ⟨l, h1, h2.same hs hD, fun p hp => ⟨(h3 p hp).1.same hs hD, (h3 p hp).2⟩⟩
theorem RLog.grow {M M' : List Nat} {w : World} {v : Value} {log : List Res} (h : RLog M w v log) (hM : ∀ x, x ∈ M' → x ∈ M ∨ w.heap.size ≤ x) : RLog M' w v log := by
  obtain ⟨l, h1, h2, h3⟩ := h; exact ⟨l, h1, h2.grow hM, fun p hp => ⟨(h3 p hp).1.grow hM, (h3 p hp).2⟩⟩
theorem RLog.form {M : List Nat} {w : World} {v : Value} {log : List Res} (h : RLog M w v log) : ∃ a c, v = .slice a log.length c ∧ log.length ≤ 140737488355328 := by
  obtain ⟨l, rfl, ⟨a, len, cap, h1, h2, h3, h4, _⟩, _⟩ := h
  rw [resCells_length] at h2
  have : len = (l.map (·.1)).length := by simp; omega
  exact ⟨a, cap, by rw [h1, this], by omega⟩
theorem RLog.at {M : List Nat} {w : World} {v : Value} {log : List Res} (h : RLog M w v log) {i : Nat} (hi : i < log.length) :
    ∃ b off cap bv, v = .slice (some ⟨b, off, none⟩) log.length cap ∧ w.cell? ⟨b, off + i * 3, none⟩ = some (.int .u64 (log[i].n : Nat)) ∧ w.cell? ⟨b, off + i * 3 + 1, none⟩ = some bv ∧ w.cell? ⟨b, off + i * 3 + 2, none⟩ = some (.bool log[i].fail) ∧ Bytes M w bv log[i].b ∧ log[i].n < W64 ∧ b ∉ M := by
  obtain ⟨l, rfl, ⟨a, len, cap, h1, h2, h3, h4, h5⟩, h6⟩ := h
  have hil : i < l.length := by simpa using hi
  rw [resCells_length] at h2
  have hlen : len = l.length := by omega
  obtain ⟨c1, c2, c3⟩ := resCells_at l i hil
  have hb := h6 l[i] (List.getElem_mem hil)
  rcases h5 with ⟨_, h0, _⟩ | ⟨b, off, rfl, hr⟩
  · omega
  · have g : ∀ j, j < l.length * 3 → w.cell? ⟨b, off + j, none⟩ = (resCells l)[j]? := fun j hj => by
      rw [hr.cell (i := j) (by rw [resCells_length]; exact hj)]; exact (List.getElem?_eq_getElem _).symm
    refine ⟨b, off, cap, l[i].2, by simp [h1, hlen], ?_, ?_, ?_, by simpa using hb.1, by simpa using hb.2, hr.1⟩
    · rw [g _ (by omega), c1]; simp
    · rw [show off + i * 3 + 1 = off + (i * 3 + 1) from rfl, g _ (by omega), c2]
    · rw [show off + i * 3 + 2 = off + (i * 3 + 2) from rfl, g _ (by omega), c3]; simp

/-- What becomes of an access: it is told; it isn't told; or it is larger than what this text speaks of. -/
inductive Told (σ : Type) : Type
  | told (r : Res) (s : σ)
  | stop
  | unfit

/-- A program: it makes accesses, each told a result; it answers; or its fuel is out. -/
inductive Prog (α : Type) : Type
  | ret (a : α)
  | ask (a : Acc) (k : Res → Prog α)
  | stuck

namespace Prog
def bind {α β : Type} : Prog α → (α → Prog β) → Prog β
  | .ret a, f => f a
  | .ask a k, f => .ask a fun r => (k r).bind f
  | .stuck, _ => .stuck
instance : Monad Prog where
  pure := Prog.ret
  bind := Prog.bind
/-- From state s, told by step: it ends with K, or stops at an access that isn't told, with S. -/
def wp {σ α : Type} (step : σ → Acc → Told σ) : Prog α → σ → (α → σ → Prop) → (Acc → σ → Prop) → Prop
  | .ret a, s, K, _ => K a s
  | .ask a k, s, K, S => match step s a with
    | .told r s' => (k r).wp step s' K S
    | .stop => S a s
    | .unfit => False
  | .stuck, _, _, _ => False
section
variable {σ α β : Type} {step : σ → Acc → Told σ}
@[simp] theorem wp_ret (a : α) (s : σ) (K : α → σ → Prop) (S : Acc → σ → Prop) : (Prog.ret a).wp step s K S ↔ K a s := Iff.rfl
@[simp] theorem wp_pure (a : α) (s : σ) (K : α → σ → Prop) (S : Acc → σ → Prop) : (pure a : Prog α).wp step s K S ↔ K a s := Iff.rfl
@[simp] theorem wp_stuck (s : σ) (K : α → σ → Prop) (S : Acc → σ → Prop) : (Prog.stuck : Prog α).wp step s K S ↔ False := Iff.rfl
@[simp] theorem pure_bind (a : α) (f : α → Prog β) : (pure a >>= f) = f a := rfl
theorem wp_bind (p : Prog α) (f : α → Prog β) (s : σ) (K : β → σ → Prop) (S : Acc → σ → Prop) :
    (p >>= f).wp step s K S ↔ p.wp step s (fun a s' => (f a).wp step s' K S) S := by
  show (p.bind f).wp step s K S ↔ _
  induction p generalizing s with
  | ret a => exact Iff.rfl
  | stuck => exact Iff.rfl
  | ask a k ih =>
    simp only [bind, wp]
    split
    · exact ih _ _
    · exact Iff.rfl
    · exact Iff.rfl
theorem wp_mono {p : Prog α} {s : σ} {K K' : α → σ → Prop} {S S' : Acc → σ → Prop} (h : p.wp step s K S) (hK : ∀ a s, K a s → K' a s) (hS : ∀ a s, S a s → S' a s) : p.wp step s K' S' := by
  induction p generalizing s with
  | ret a => exact hK _ _ h
  | stuck => exact h
  | ask a k ih =>
    simp only [wp] at h ⊢
    split
    · rename_i hs; rw [hs] at h; exact ih _ h
    · rename_i hs; rw [hs] at h; exact hS _ _ h
    · rename_i hs; rw [hs] at h; exact h
end
end Prog

def ask (a : Acc) : Prog Res := .ask a .ret
def load (i : Int) : Prog Nat := .ask { kind := 0, cell := i } fun r => .ret r.n
def store (i : Int) (n : Nat) : Prog Unit := .ask { kind := 1, cell := i, a := n } fun _ => .ret ()
def cas (i : Int) (a b : Nat) : Prog Bool := .ask { kind := 2, cell := i, a := a, b := b } fun r => .ret (r.n == 1)
def add (i : Int) (n : Nat) : Prog Nat := .ask { kind := 3, cell := i, a := n } fun r => .ret r.n
def swap (i : Int) (n : Nat) : Prog Nat := .ask { kind := 4, cell := i, a := n } fun r => .ret r.n

theorem q_gen {Q : Ending → World → Prop} {e : Ending} {w : World} (h : ∀ W, W = w → Q e W) : Q e w := h w rfl
theorem post_gen {P : Program} {fn : Func} {Q : Ending → World → Prop} {e : Exit} {a : Act} {w : World} (h : ∀ W, W = w → bodyPost P fn Q e a W) : bodyPost P fn Q e a w := h w rfl
theorem set_at (w : World) (b o : Nat) (v : Value) : (w.setCell ⟨b, o, none⟩ v).heap[b]? = (w.heap[b]?).map fun | .cells c e fr => .cells (c.setIfInBounds o v) e fr | x => x := by
  simp only [World.setCell, Array.getElem?_modify, if_true]
  cases w.heap[b]? with
  | none => rfl
  | some x => cases x <;> rfl


end Go.Proofs.YtdfeinfaljidgaaDoor
