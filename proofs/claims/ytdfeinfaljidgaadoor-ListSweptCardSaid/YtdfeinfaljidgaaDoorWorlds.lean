/- Worlds as plain data, and how values read as them; plain Lean. -/
import Derived.Test.YtdfeinfaljidgaaDoorCore
namespace Go.Proofs.YtdfeinfaljidgaaDoor
open Go Go.RowKit

def RMem (M : List Nat) (w : World) (v : Value) (m : MemM) : Prop := ∃ wv, v = .agg #[.int .i64 m.T, .int .i64 m.C, wv] ∧ U64s M w wv m.word
def strCells (l : List (StreamM × Value)) : List Value := l.flatMap fun p => [p.2, .int .i64 p.1.synced]
/-- []api.Stream. -/
def RStrs (M : List Nat) (w : World) (v : Value) (ss : List StreamM) : Prop :=
  ∃ l : List (StreamM × Value), l.map (·.1) = ss ∧ Sl M w v 2 (strCells l) ∧ ∀ p, p ∈ l → Bytes M w p.2 p.1.data
def RDisk (M : List Nat) (w : World) (v : Value) (d : DiskM) : Prop := ∃ v0 v1, v = .agg #[.int .u64 d.root, v0, v1] ∧ RStrs M w v0 d.row0 ∧ RStrs M w v1 d.row1 ∧ d.root < W64
def RWorld (M : List Nat) (w : World) (v : Value) (x : WorldM) : Prop :=
  ∃ wv v0 v1, v = .agg #[.int .i64 x.mem.T, .int .i64 x.mem.C, wv, .int .u64 x.disk.root, v0, v1] ∧ U64s M w wv x.mem.word ∧ RStrs (ownL wv ++ M) w v0 x.disk.row0 ∧ RStrs (ownL wv ++ M) w v1 x.disk.row1 ∧ x.disk.root < W64

theorem RMem.same {M D : List Nat} {w w' : World} {v : Value} {m : MemM} (h : RMem M w v m) (hs : Same D w w') (hD : ∀ x, x ∈ D → x ∈ M) : RMem M w' v m := by
  obtain ⟨wv, h1, h2⟩ := h; exact ⟨wv, h1, h2.same hs hD⟩
theorem RMem.grow {M M' : List Nat} {w : World} {v : Value} {m : MemM} (h : RMem M w v m) (hM : ∀ x, x ∈ M' → x ∈ M ∨ w.heap.size ≤ x) : RMem M' w v m := by
  obtain ⟨wv, h1, h2⟩ := h; exact ⟨wv, h1, h2.grow hM⟩
theorem RStrs.same {M D : List Nat} {w w' : World} {v : Value} {m : List StreamM} (h : RStrs M w v m) (hs : Same D w w') (hD : ∀ x, x ∈ D → x ∈ M) : RStrs M w' v m := by
  obtain ⟨l, h1, h2, h3⟩ := h; exact ⟨l, h1, h2.same hs hD, fun p hp => (h3 p hp).same hs hD⟩
theorem RStrs.grow {M M' : List Nat} {w : World} {v : Value} {m : List StreamM} (h : RStrs M w v m) (hM : ∀ x, x ∈ M' → x ∈ M ∨ w.heap.size ≤ x) : RStrs M' w v m := by
  obtain ⟨l, h1, h2, h3⟩ := h; exact ⟨l, h1, h2.grow hM, fun p hp => (h3 p hp).grow hM⟩
theorem RDisk.same {M D : List Nat} {w w' : World} {v : Value} {m : DiskM} (h : RDisk M w v m) (hs : Same D w w') (hD : ∀ x, x ∈ D → x ∈ M) : RDisk M w' v m := by
  obtain ⟨a, b, h1, h2, h3, h4⟩ := h; exact ⟨a, b, h1, h2.same hs hD, h3.same hs hD, h4⟩
theorem RDisk.grow {M M' : List Nat} {w : World} {v : Value} {m : DiskM} (h : RDisk M w v m) (hM : ∀ x, x ∈ M' → x ∈ M ∨ w.heap.size ≤ x) : RDisk M' w v m := by
  obtain ⟨a, b, h1, h2, h3, h4⟩ := h; exact ⟨a, b, h1, h2.grow hM, h3.grow hM, h4⟩
theorem RWorld.same {M D : List Nat} {w w' : World} {v : Value} {m : WorldM} (h : RWorld M w v m) (hs : Same D w w') (hD : ∀ x, x ∈ D → x ∈ M) : RWorld M w' v m := by
  obtain ⟨a, b, c, h1, h2, h3, h4, h5⟩ := h; exact ⟨a, b, c, h1, h2.same hs hD, h3.same hs fun x hx => List.mem_append_right _ (hD x hx), h4.same hs fun x hx => List.mem_append_right _ (hD x hx), h5⟩
theorem RWorld.grow {M M' : List Nat} {w : World} {v : Value} {m : WorldM} (h : RWorld M w v m) (hM : ∀ x, x ∈ M' → x ∈ M ∨ w.heap.size ≤ x) : RWorld M' w v m := by
  obtain ⟨a, b, c, h1, h2, h3, h4, h5⟩ := h
  have hM2 : ∀ x, x ∈ ownL a ++ M' → x ∈ ownL a ++ M ∨ w.heap.size ≤ x := fun x hx => by
    rcases List.mem_append.1 hx with hx | hx
    · exact .inl (List.mem_append_left _ hx)
    · exact (hM x hx).imp (List.mem_append_right _) id
  exact ⟨a, b, c, h1, h2.grow hM, h3.grow hM2, h4.grow hM2, h5⟩

/-! ### What accesses do -/
def turnM (kind old a b : Nat) : Nat × Nat :=
  if kind = 0 then (old, old) else if kind = 1 then (0, a) else if kind = 2 then (if old = a then (1, b) else (0, old)) else if kind = 3 then (old, (old + a) % W64) else (old, a)
def wordsM (m : MemM) (a : Acc) : MemM × Res :=
  if 0 ≤ a.cell ∧ a.cell < m.word.length then
    let t := turnM a.kind (m.word.getD a.cell.toNat 0) a.a a.b
    ({ m with word := m.word.set a.cell.toNat t.2 }, { n := t.1 })
  else (m, {})
def rowM (d : DiskM) (r : Nat) : List StreamM := if r = 0 then d.row0 else d.row1
def setRowM (d : DiskM) (r : Nat) (l : List StreamM) : DiskM := if r = 0 then { d with row0 := l } else { d with row1 := l }
def appendM (s : StreamM) (b : List UInt8) : StreamM := { s with data := s.data ++ b }
def syncM (s : StreamM) : StreamM := { s with synced := s.data.length }
def turnD (d : DiskM) (r i : Nat) (f : StreamM → StreamM) : DiskM := setRowM d r ((rowM d r).modify i f)
/-- An access of a disk that appends to, or syncs, a thread's own stream. -/
def streamsM (d : DiskM) (me : Nat) (a : Acc) : DiskM :=
  if a.kind = 5 then turnD d (d.root % 2) me (fun s => appendM s a.data) else turnD d (d.root % 2) me syncM
def worldStep (me : Nat) (x : WorldM) (a : Acc) : WorldM × Res :=
  if a.kind < 5 then let t := wordsM x.mem a; ({ x with mem := t.1 }, t.2) else ({ x with disk := streamsM x.disk me a }, {})
/-- Is it small enough? -/
def fitD (d : DiskM) (me : Nat) (a : Acc) : Bool := decide (a.kind = 5 → ((rowM d (d.root % 2)).getD me {}).data.length + a.data.length ≤ 1000000000)
def worldTold (me : Nat) (x : WorldM) (a : Acc) : Told WorldM := if a.kind ≤ 6 ∧ fitD x.disk me a then .told (worldStep me x a).2 (worldStep me x a).1 else .unfit

theorem wordsM_length (m : MemM) (a : Acc) : (wordsM m a).1.word.length = m.word.length := by unfold wordsM; split <;> simp

end Go.Proofs.YtdfeinfaljidgaaDoor
