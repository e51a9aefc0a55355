/- What the programs of epoch and save do to words, where nobody else steps. Plain Lean. -/
import Derived.Test.YtdfeinfaljidgaaDoorRunW
namespace Go.Proofs.YtdfeinfaljidgaaDoor
open Go Go.RowKit

theorem Runs.seq {α β : Type} {me : Nat} {x y z : WorldM} {k l m : Nat} {p : Prog α} {f : α → Prog β} {a : α} {b : β} (h : Runs me p x a y k) (h' : Runs me (f a) y b z l) (hk : k + l ≤ m) : Runs me (p >>= f) x b z m := (h.bind h').more hk

/-- A memory for t threads and C records. -/
structure Dim (t C : Nat) (x : WorldM) : Prop where
  len : x.len = 8 + t + 8 * C
  T : t ≤ 64
  C : C ≤ 65536

section
variable {t C r f p i v : Nat} {x : WorldM}
theorem Dim.put (h : Dim t C x) : Dim t C (x.put i v) := ⟨by simpa using h.len, h.T, h.C⟩
theorem Dim.disk (h : Dim t C x) (d : DiskM) : Dim t C { x with disk := d } := ⟨h.len, h.T, h.C⟩
theorem Dim.field (h : Dim t C x) (_hr : 1 ≤ r) (hC : r ≤ C) (hf : f < 8) : field t r f < x.len := by
  have := h.len; unfold Go.Proofs.YtdfeinfaljidgaaDoor.field; omega
theorem Dim.next (h : Dim t C x) (hC : p ≤ C) : next t p < x.len := by
  unfold Go.Proofs.YtdfeinfaljidgaaDoor.next
  split
  · have := h.len; omega
  · exact h.field (by omega) hC (by decide)
theorem Dim.cell (h : Dim t C x) (hi : i < 8 + t) : i < x.len := by have := h.len; omega
end

/-! ### save -/
def entryOf (t r bit : Nat) (x : WorldM) : EntryM :=
  if bit = 1 then { kind := 1, stamp := stamp (x.get (field t r 2)), key := x.get (field t r 1), su := x.get (field t r 4), sv := x.get (field t r 5), w := x.get (field t r 6) }
  else { kind := 2, stamp := stamp (x.get (field t r 2)) }
def savedW (me t r bit : Nat) (x : WorldM) : WorldM :=
  if hasBit (x.get (field t r 2)) bit then x else ({ x with disk := savedD me x.disk (entryOf t r bit x) } : WorldM).put (field t r 2) (x.get (field t r 2) ||| bit)

section
variable {me t C r n bit : Nat} {x : WorldM}
theorem entry_runs (h : Dim t C x) (hr : 1 ≤ r) (hC : r ≤ C) : Runs me (entryP t r bit (x.get (field t r 2))) x (entryOf t r bit x) x 4 := by
  unfold entryP entryOf
  split
  · refine Runs.seq (l := 3) (Runs.load rfl (h.field hr hC (by decide))) ?_ (by omega)
    refine Runs.seq (l := 2) (Runs.load rfl (h.field hr hC (by decide))) ?_ (by omega)
    refine Runs.seq (l := 1) (Runs.load rfl (h.field hr hC (by decide))) ?_ (by omega)
    refine Runs.seq (l := 0) (Runs.load rfl (h.field hr hC (by decide))) ?_ (by omega)
    exact Runs.pure _
  · exact Runs.pure _
theorem setLoop_runs {over : Nat → Bool} (h : Dim t C x) (hr : 1 ≤ r) (hC : r ≤ C) (hn : 1 ≤ n) (ho : over (x.get (field t r 2)) = false) :
    Runs me (setLoop t r bit over n) x () (x.put (field t r 2) (x.get (field t r 2) ||| bit)) 2 := by
  obtain ⟨n, rfl⟩ : ∃ m, n = m + 1 := ⟨n - 1, by omega⟩
  unfold setLoop flagP
  refine Runs.seq (l := 1) (Runs.load rfl (h.field hr hC (by decide))) ?_ (by omega)
  rw [ho]
  simp only [Bool.false_eq_true, if_false]
  refine Runs.seq (l := 0) (Runs.cas rfl (h.field hr hC (by decide)) rfl) ?_ (by omega)
  simp only [if_true]
  exact Runs.pure _
theorem setOver_runs {over : Nat → Bool} (h : Dim t C x) (hr : 1 ≤ r) (hC : r ≤ C) (hn : 1 ≤ n) (ho : over (x.get (field t r 2)) = true) :
    Runs me (setLoop t r bit over n) x () x 1 := by
  obtain ⟨n, rfl⟩ : ∃ m, n = m + 1 := ⟨n - 1, by omega⟩
  unfold setLoop flagP
  refine Runs.seq (l := 0) (Runs.load rfl (h.field hr hC (by decide))) ?_ (by omega)
  rw [ho]
  simp only [if_true]
  exact Runs.pure _
theorem save_runs (h : Dim t C x) (hr : 1 ≤ r) (hC : r ≤ C) (hn : 1 ≤ n) (hroom : room me x.disk + 47 ≤ 1000000000) : Runs me (saveP n t r bit) x true (savedW me t r bit x) 9 := by
  unfold saveP flagP savedW
  refine Runs.seq (l := 8) (Runs.load rfl (h.field hr hC (by decide))) ?_ (by omega)
  unfold restP
  by_cases hb : hasBit (x.get (field t r 2)) bit = true
  · rw [if_pos hb, if_pos hb]; exact Runs.pure _
  · rw [if_neg hb, if_neg hb]
    refine Runs.seq (l := 4) (entry_runs h hr hC) ?_ (by omega)
    refine Runs.seq (l := 2) (Runs.disk _ hroom) ?_ (by omega)
    simp only [Bool.true_eq_false, if_false]
    refine Runs.seq (l := 0) (setLoop_runs (C := C) (h.disk _) hr hC hn ?_) (Runs.pure _) (by omega)
    have hb' : hasBit (x.get (field t r 2)) bit = false := by simpa using hb
    show (stamp (x.get (field t r 2)) != stamp (x.get (field t r 2)) || hasBit (x.get (field t r 2)) bit) = false
    rw [hb']; simp
theorem savedW_len : (savedW me t r bit x).len = x.len := by unfold savedW; split <;> simp [WorldM.len, WorldM.put]
theorem savedW_T : (savedW me t r bit x).mem.T = x.mem.T := by unfold savedW; split <;> rfl
theorem savedW_C : (savedW me t r bit x).mem.C = x.mem.C := by unfold savedW; split <;> rfl
theorem savedW_dim (h : Dim t C x) : Dim t C (savedW me t r bit x) := ⟨savedW_len.trans h.len, h.T, h.C⟩
theorem savedW_get {i : Nat} (h : i ≠ field t r 2) : (savedW me t r bit x).get i = x.get i := by
  unfold savedW
  split
  · rfl
  · rw [get_put_ne h]; rfl
/-- A flag with a bit. -/
def withBit (f bit : Nat) : Nat := if hasBit f bit then f else f ||| bit
theorem savedW_flag (h : Dim t C x) (hr : 1 ≤ r) (hC : r ≤ C) : (savedW me t r bit x).get (field t r 2) = withBit (x.get (field t r 2)) bit := by
  unfold savedW withBit
  split
  · rfl
  · rw [get_put_same]; exact h.field hr hC (by decide)
theorem savedW_room : room me (savedW me t r bit x).disk ≤ room me x.disk + 47 := by
  unfold savedW
  split
  · omega
  · exact room_saved _ _ _
theorem savedW_root : (savedW me t r bit x).disk.root = x.disk.root := by
  unfold savedW
  split
  · rfl
  · show (savedD me x.disk _).root = _
    unfold savedD
    rw [root_streams, root_streams]
end
theorem withBit_has2 (f : Nat) : hasBit (withBit f 2) 2 = true := by
  unfold withBit
  by_cases h : hasBit f 2 = true
  · rw [if_pos h]; exact h
  · rw [if_neg h]
    unfold hasBit
    simp only [show (2 : Nat) = 1 ↔ False from by decide, if_false]
    have : (f ||| 2).testBit 1 = true := by rw [Nat.testBit_or, show Nat.testBit 2 1 = true from by decide, Bool.or_true]
    rw [Nat.testBit_eq_decide_div_mod_eq] at this
    simpa using this
theorem withBit_lt {f bit : Nat} (h : f < W64) (hb : bit < 4) : withBit f bit < W64 := by
  unfold withBit
  split
  · exact h
  · exact Nat.or_lt_two_pow (n := 64) (by unfold W64 at h; omega) (by omega)

/-! ### epoch -/
def retiredW (t r : Nat) (x : WorldM) : WorldM := (x.put (field t r 7) (x.get (limbo (x.get 3)))).put (limbo (x.get 3)) r
theorem limbo_lt (e : Nat) : 4 ≤ limbo e ∧ limbo e < 7 := by unfold limbo; omega
section
variable {me t C r n : Nat} {x : WorldM}
theorem retire_runs (h : Dim t C x) (hr : 1 ≤ r) (hC : r ≤ C) (hn : 1 ≤ n) : Runs me (retireP n t r) x () (retiredW t r x) 4 := by
  obtain ⟨n, rfl⟩ : ∃ m, n = m + 1 := ⟨n - 1, by omega⟩
  have hl := limbo_lt (x.get 3)
  unfold retireP retiredW
  refine Runs.seq (l := 3) (Runs.load (i := 3) rfl (h.cell (by omega))) ?_ (by omega)
  unfold retireLoop
  refine Runs.seq (l := 2) (Runs.load rfl (h.cell (by omega))) ?_ (by omega)
  refine Runs.seq (l := 1) (Runs.store rfl (h.field hr hC (by decide))) ?_ (by omega)
  refine Runs.seq (l := 0) (Runs.cas rfl (h.put.cell (by omega)) ?_) (by simp only [if_true]; exact Runs.pure _) (by omega)
  rw [get_put_ne]
  unfold field; omega
theorem retiredW_len : (retiredW t r x).len = x.len := by simp [retiredW]
theorem retiredW_dim (h : Dim t C x) : Dim t C (retiredW t r x) := ⟨retiredW_len.trans h.len, h.T, h.C⟩
theorem retiredW_get (h : Dim t C x) (hr : 1 ≤ r) (hC : r ≤ C) (i : Nat) : (retiredW t r x).get i = if i = limbo (x.get 3) then r else if i = field t r 7 then x.get (limbo (x.get 3)) else x.get i := by
  have hl := limbo_lt (x.get 3)
  unfold retiredW
  by_cases h1 : i = limbo (x.get 3)
  · rw [if_pos h1, h1, get_put_same]
    simp only [len_put]
    exact h.cell (by omega)
  · rw [if_neg h1, get_put_ne h1]
    by_cases h2 : i = field t r 7
    · rw [if_pos h2, h2, get_put_same (h.field hr hC (by decide))]
    · rw [if_neg h2, get_put_ne h2]
end

/-! ### To take out -/
def outW (me t p c nx : Nat) (x : WorldM) : WorldM := retiredW t c ((savedW me t c 2 x).put (next t p) (link (ref nx) false))
section
variable {me t C p c nx n : Nat} {x : WorldM}
theorem next_ne {f : Nat} (h : p ≠ c) (hf : f < 8) (hc : 1 ≤ c) : next t p ≠ field t c f := by
  unfold next field
  split <;> omega
theorem next_field {f : Nat} (h : 1 ≤ f) (hf : f < 8) (hc : 1 ≤ c) : next t p ≠ field t c f := by
  unfold next field
  split <;> omega
theorem next_cell {i : Nat} (h1 : 1 ≤ i) (h2 : i < 8 + t) : next t p ≠ i := by
  unfold next field
  split <;> omega
theorem out_runs (h : Dim t C x) (hp : p ≤ C) (hc : 1 ≤ c) (hC : c ≤ C) (hn : 1 ≤ n) (hroom : room me x.disk + 47 ≤ 1000000000) (hl : x.get (next t p) = link c false) :
    Runs me (outP n t p c nx) x (true, true) (outW me t p c nx x) 14 := by
  unfold outP outW
  refine Runs.seq (l := 5) (save_runs h hc hC hn hroom) ?_ (by omega)
  simp only [Bool.true_eq_false, if_false]
  refine Runs.seq (l := 4) (Runs.cas rfl ((savedW_dim h).next hp) ?_) ?_ (by omega)
  · rw [savedW_get]
    · exact hl
    · exact next_field (by decide) (by decide) hc
  · simp only [Bool.true_eq_false, if_false]
    refine Runs.seq (l := 0) (retire_runs (C := C) (savedW_dim h).put hc hC hn) (Runs.pure _) (by omega)
theorem outW_dim (h : Dim t C x) : Dim t C (outW me t p c nx x) := retiredW_dim (savedW_dim h).put
theorem outW_T : (outW me t p c nx x).mem.T = x.mem.T := by unfold outW retiredW; simp [savedW_T]
theorem outW_C : (outW me t p c nx x).mem.C = x.mem.C := by unfold outW retiredW; simp [savedW_C]
theorem outW_disk : (outW me t p c nx x).disk = (savedW me t c 2 x).disk := rfl
theorem outW_room : room me (outW me t p c nx x).disk ≤ room me x.disk + 47 := savedW_room
theorem outW_get (h : Dim t C x) (hp : p ≤ C) (hc : 1 ≤ c) (hC : c ≤ C) (i : Nat) :
    (outW me t p c nx x).get i = if i = limbo (x.get 3) then c else if i = field t c 7 then x.get (limbo (x.get 3)) else if i = next t p then link (ref nx) false else if i = field t c 2 then withBit (x.get (field t c 2)) 2 else x.get i := by
  have hd := savedW_dim (me := me) (r := c) (bit := 2) h
  have h3 : ((savedW me t c 2 x).put (next t p) (link (ref nx) false)).get 3 = x.get 3 := by
    rw [get_put_ne (Ne.symm (next_cell (by decide) (by omega))), savedW_get (by unfold field; omega)]
  have hl := limbo_lt (x.get 3)
  have hlm : ((savedW me t c 2 x).put (next t p) (link (ref nx) false)).get (limbo (x.get 3)) = x.get (limbo (x.get 3)) := by
    rw [get_put_ne (Ne.symm (next_cell (by omega) (by omega))), savedW_get (by unfold field; omega)]
  unfold outW
  rw [retiredW_get hd.put hc hC, h3, hlm]
  by_cases h1 : i = limbo (x.get 3)
  · rw [if_pos h1, if_pos h1]
  rw [if_neg h1, if_neg h1]
  by_cases h2 : i = field t c 7
  · rw [if_pos h2, if_pos h2]
  rw [if_neg h2, if_neg h2]
  by_cases h4 : i = next t p
  · rw [if_pos h4, h4, get_put_same (hd.next hp)]
  rw [if_neg h4, get_put_ne h4]
  by_cases h5 : i = field t c 2
  · rw [if_pos h5, h5, savedW_flag h hc hC]
  · rw [if_neg h5, savedW_get h5]
end
end Go.Proofs.YtdfeinfaljidgaaDoor
