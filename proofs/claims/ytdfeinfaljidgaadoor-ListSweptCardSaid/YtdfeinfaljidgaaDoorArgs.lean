/- Slices of bytes and bools that come in. -/
import Derived.Test.YtdfeinfaljidgaaDoorPoke
namespace Go.Proofs.YtdfeinfaljidgaaDoor
open Go Go.RowKit

/-- []bool. -/
def Bools (M : List Nat) (w : World) (v : Value) (bs : List Bool) : Prop := Sl M w v 1 (bs.map Value.bool)
theorem Bools.same {M D : List Nat} {w w' : World} {v : Value} {xs : List Bool} (h : Bools M w v xs) (hs : Same D w w') (hD : ∀ x, x ∈ D → x ∈ M) : Bools M w' v xs := Sl.same h hs hD
theorem Sl.len1 {M : List Nat} {w : World} {a : Option Addr} {l c : Nat} {cs : List Value} (h : Sl M w (.slice a l c) 1 cs) : l = cs.length ∧ l ≤ 140737488355328 := by
  obtain ⟨a', l', c', e, h1, _, h3, _⟩ := h
  simp only [Value.slice.injEq] at e
  obtain ⟨_, rfl, _⟩ := e
  omega
theorem Sl.one {M : List Nat} {w : World} {a : Option Addr} {l c : Nat} {cs : List Value} (h : Sl M w (.slice a l c) 1 cs) {i : Nat} {u : Value} (hi : cs[i]? = some u) : ∃ b off, a = some ⟨b, off, none⟩ ∧ w.cell? ⟨b, off + i, none⟩ = some u := by
  have h' := h
  obtain ⟨a', l', c', e, h1, _, h3, h4⟩ := h
  simp only [Value.slice.injEq] at e
  obtain ⟨rfl, rfl, rfl⟩ := e
  rcases h4 with ⟨_, h0, _⟩ | ⟨b, off, rfl, _⟩
  · have := (List.getElem?_eq_some_iff.1 hi).1; omega
  · have := Sl.cells_at h' i u hi
    rw [Addr.add_lit] at this
    exact ⟨b, off, rfl, this⟩

end Go.Proofs.YtdfeinfaljidgaaDoor
