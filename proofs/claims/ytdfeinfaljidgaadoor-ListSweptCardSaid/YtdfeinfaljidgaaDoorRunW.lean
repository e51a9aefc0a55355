/- Programs that are run against a world, by plain rules; what they do to words. Plain Lean. -/
import Derived.Test.YtdfeinfaljidgaaDoorWorlds
import Derived.Test.YtdfeinfaljidgaaDoorSpec
namespace Go.Proofs.YtdfeinfaljidgaaDoor
open Go Go.RowKit

/-- A program that is run against a world: its answer, the world behind it, and what it was told. -/
def runW {α : Type} (me : Nat) : Prog α → WorldM → Option (α × WorldM × List Res)
  | .ret a, x => some (a, x, [])
  | .stuck, _ => none
  | .ask a k, x => match worldTold me x a with
    | .told r y => match runW me (k r) y with
      | some (o, z, l) => some (o, z, r :: l)
      | none => none
    | .stop => none
    | .unfit => none

/-- The program p, run against x, answers o, and leaves z, within k accesses. -/
def Runs {α : Type} (me : Nat) (p : Prog α) (x : WorldM) (o : α) (z : WorldM) (k : Nat) : Prop := ∃ rs, runW me p x = some (o, z, rs) ∧ rs.length ≤ k

section
variable {α β : Type} {me : Nat} {x y z : WorldM} {k l : Nat}

theorem Runs.ret (a : α) : Runs me (.ret a) x a x k := ⟨[], rfl, Nat.zero_le _⟩
theorem Runs.pure (a : α) : Runs me (pure a : Prog α) x a x k := Runs.ret a
theorem Runs.more {p : Prog α} {o : α} (h : Runs me p x o z k) (hk : k ≤ l) : Runs me p x o z l := by
  obtain ⟨rs, h1, h2⟩ := h; exact ⟨rs, h1, Nat.le_trans h2 hk⟩
theorem Runs.ask {a : Acc} {f : Res → Prog α} {o : α} (hk : a.kind ≤ 6) (hf : fitD x.disk me a = true) (h : Runs me (f (worldStep me x a).2) (worldStep me x a).1 o z k) : Runs me (.ask a f) x o z (k + 1) := by
  obtain ⟨rs, h1, h2⟩ := h
  refine ⟨(worldStep me x a).2 :: rs, ?_, by simp; omega⟩
  simp only [runW, worldTold, if_pos (And.intro hk hf), h1]
theorem runW_bind {p : Prog α} {f : α → Prog β} {a : α} {b : β} {rs rs' : List Res} (h : runW me p x = some (a, y, rs)) (h' : runW me (f a) y = some (b, z, rs')) : runW me (p >>= f) x = some (b, z, rs ++ rs') := by
  show runW me (p.bind f) x = _
  induction p generalizing x rs with
  | ret a0 =>
    simp only [runW, Option.some.injEq, Prod.mk.injEq] at h
    obtain ⟨rfl, rfl, rfl⟩ := h
    simpa [Prog.bind] using h'
  | stuck => simp [runW] at h
  | ask a0 k0 ih =>
    simp only [runW, Prog.bind] at h ⊢
    cases ht : worldTold me x a0 with
    | stop => rw [ht] at h; simp at h
    | unfit => rw [ht] at h; simp at h
    | told r s =>
      rw [ht] at h
      simp only at h ⊢
      cases hr : runW me (k0 r) s with
      | none => rw [hr] at h; simp at h
      | some v =>
        obtain ⟨o, z', l'⟩ := v
        rw [hr] at h
        simp only [Option.some.injEq, Prod.mk.injEq] at h
        obtain ⟨rfl, rfl, rfl⟩ := h
        rw [ih r hr]
        rfl
theorem Runs.bind {p : Prog α} {f : α → Prog β} {a : α} {b : β} (h : Runs me p x a y k) (h' : Runs me (f a) y b z l) : Runs me (p >>= f) x b z (k + l) := by
  obtain ⟨rs, h1, h2⟩ := h
  obtain ⟨rs', h3, h4⟩ := h'
  exact ⟨rs ++ rs', runW_bind h1 h3, by simp; omega⟩
end

theorem worldStep_mem (me : Nat) (x : WorldM) (a : Acc) : (worldStep me x a).1.mem.T = x.mem.T ∧ (worldStep me x a).1.mem.C = x.mem.C ∧ (worldStep me x a).1.mem.word.length = x.mem.word.length := by
  unfold worldStep
  split
  · unfold wordsM; split <;> simp
  · exact ⟨rfl, rfl, rfl⟩
/-- A run leaves the sizes of a memory. -/
theorem runW_mem {α : Type} {me : Nat} {p : Prog α} {x z : WorldM} {o : α} {rs : List Res} (h : runW me p x = some (o, z, rs)) : z.mem.T = x.mem.T ∧ z.mem.C = x.mem.C ∧ z.mem.word.length = x.mem.word.length := by
  induction p generalizing x rs with
  | ret a =>
    simp only [runW, Option.some.injEq, Prod.mk.injEq] at h
    obtain ⟨_, rfl, _⟩ := h
    exact ⟨rfl, rfl, rfl⟩
  | stuck => simp [runW] at h
  | ask a k ih =>
    simp only [runW] at h
    unfold worldTold at h
    split at h
    · rename_i r s hs
      split at hs
      · simp only [Told.told.injEq] at hs
        obtain ⟨rfl, rfl⟩ := hs
        cases hr : runW me (k (worldStep me x a).2) (worldStep me x a).1 with
        | none => rw [hr] at h; cases h
        | some t =>
          obtain ⟨o', z', l'⟩ := t
          rw [hr] at h
          simp only [Option.some.injEq, Prod.mk.injEq] at h
          obtain ⟨rfl, rfl, rfl⟩ := h
          have h1 := ih _ hr
          have h2 := worldStep_mem me x a
          exact ⟨h1.1.trans h2.1, h1.2.1.trans h2.2.1, h1.2.2.trans h2.2.2⟩
      · cases hs
    · cases h
    · cases h
theorem Runs.mem {α : Type} {me : Nat} {p : Prog α} {x z : WorldM} {o : α} {k : Nat} (h : Runs me p x o z k) : z.mem.T = x.mem.T ∧ z.mem.C = x.mem.C ∧ z.mem.word.length = x.mem.word.length := by
  obtain ⟨rs, h, _⟩ := h
  exact runW_mem h

/-! ### Words -/
def WorldM.get (x : WorldM) (i : Nat) : Nat := x.mem.word.getD i 0
def WorldM.put (x : WorldM) (i v : Nat) : WorldM := { x with mem := { x.mem with word := x.mem.word.set i v } }
def WorldM.len (x : WorldM) : Nat := x.mem.word.length

section
variable {me : Nat} {x : WorldM} {i j v a b : Nat}
@[simp] theorem len_put : (x.put i v).len = x.len := by simp [WorldM.len, WorldM.put]
@[simp] theorem disk_put : (x.put i v).disk = x.disk := rfl
@[simp] theorem T_put : (x.put i v).mem.T = x.mem.T := rfl
@[simp] theorem C_put : (x.put i v).mem.C = x.mem.C := rfl
theorem get_put_same (h : i < x.len) : (x.put i v).get i = v := by
  unfold WorldM.len at h
  simp [WorldM.get, WorldM.put, List.getD_eq_getElem?_getD, h]
theorem get_put_ne (h : j ≠ i) : (x.put i v).get j = x.get j := by
  simp [WorldM.get, WorldM.put, List.getD_eq_getElem?_getD, Ne.symm h]
theorem put_get (h : i < x.len) : x.put i (x.get i) = x := by
  unfold WorldM.put WorldM.get WorldM.len at *
  have : x.mem.word.set i (x.mem.word.getD i 0) = x.mem.word := by
    rw [List.getD_eq_getElem?_getD, List.getElem?_eq_getElem h]
    simp
  rw [this]
theorem step_word {c : Int} {n m : Nat} (hc : c = (i : Nat)) (h : i < x.len) (hk : j ≤ 4) (ht : turnM j (x.get i) a b = (n, m)) : worldStep me x { kind := j, cell := c, a := a, b := b } = (x.put i m, { n := n }) := by
  subst hc
  unfold worldStep
  rw [if_pos (by show j < 5; omega)]
  unfold WorldM.len at h
  unfold wordsM
  simp only
  rw [if_pos (by omega)]
  simp only [Int.toNat_natCast]
  unfold WorldM.get at ht
  rw [ht]
  rfl
theorem fit_word {k : Nat} {c : Int} {d : DiskM} (hk : k ≤ 4) : fitD d me { kind := k, cell := c, a := a, b := b } = true := by
  unfold fitD
  simp only [decide_eq_true_eq]
  intro h
  omega
theorem Runs.load {c : Int} (hc : c = (i : Nat)) (h : i < x.len) : Runs me (load c) x (x.get i) x 1 := by
  have hs : worldStep me x { kind := 0, cell := c } = (x.put i (x.get i), { n := x.get i }) := step_word hc h (by decide) rfl
  rw [put_get h] at hs
  refine Runs.ask (k := 0) (by simp) (fit_word (by decide)) ?_
  rw [hs]
  exact Runs.ret _
theorem Runs.store {c : Int} (hc : c = (i : Nat)) (h : i < x.len) : Runs me (store c v) x () (x.put i v) 1 := by
  have hs : worldStep me x { kind := 1, cell := c, a := v } = (x.put i v, { n := 0 }) := step_word hc h (by decide) rfl
  refine Runs.ask (k := 0) (by simp) (fit_word (by decide)) ?_
  rw [hs]
  exact Runs.ret _
theorem Runs.cas {c : Int} (hc : c = (i : Nat)) (h : i < x.len) (ha : x.get i = a) : Runs me (cas c a b) x true (x.put i b) 1 := by
  have hs : worldStep me x { kind := 2, cell := c, a := a, b := b } = (x.put i b, { n := 1 }) := step_word hc h (by decide) (by simp [turnM, ha])
  refine Runs.ask (k := 0) (by simp) (fit_word (by decide)) ?_
  rw [hs]
  exact Runs.ret _
theorem Runs.casNot {c : Int} (hc : c = (i : Nat)) (h : i < x.len) (ha : x.get i ≠ a) : Runs me (Go.Proofs.YtdfeinfaljidgaaDoor.cas c a b) x false x 1 := by
  have hs : worldStep me x { kind := 2, cell := c, a := a, b := b } = (x.put i (x.get i), { n := 0 }) := step_word hc h (by decide) (by simp [turnM, ha])
  rw [put_get h] at hs
  refine Runs.ask (k := 0) (by simp) (fit_word (by decide)) ?_
  rw [hs]
  exact Runs.ret _
theorem Runs.add {c : Int} (hc : c = (i : Nat)) (h : i < x.len) : Runs me (add c a) x (x.get i) (x.put i ((x.get i + a) % W64)) 1 := by
  have hs : worldStep me x { kind := 3, cell := c, a := a } = (x.put i ((x.get i + a) % W64), { n := x.get i }) := step_word hc h (by decide) rfl
  refine Runs.ask (k := 0) (by simp) (fit_word (by decide)) ?_
  rw [hs]
  exact Runs.ret _
theorem Runs.swap {c : Int} (hc : c = (i : Nat)) (h : i < x.len) : Runs me (swap c a) x (x.get i) (x.put i a) 1 := by
  have hs : worldStep me x { kind := 4, cell := c, a := a } = (x.put i a, { n := x.get i }) := step_word hc h (by decide) rfl
  refine Runs.ask (k := 0) (by simp) (fit_word (by decide)) ?_
  rw [hs]
  exact Runs.ret _
end

/-! ### The disk -/
/-- How much the thread's own stream has. -/
def room (me : Nat) (d : DiskM) : Nat := ((rowM d (d.root % 2)).getD me {}).data.length
/-- An entry appended, and synced. -/
def savedD (me : Nat) (d : DiskM) (e : EntryM) : DiskM := streamsM (streamsM d me { kind := 5, data := bytesOf e }) me { kind := 6 }

theorem leBytes_len (n i : Nat) : (leBytes n i).length = i := by
  induction i generalizing n with
  | zero => rfl
  | succ i ih => simp [leBytes, ih]
theorem bytesOf_len (e : EntryM) : (bytesOf e).length ≤ 47 := by
  unfold bytesOf
  split
  · unfold frameOf
    split
    · simp
    · unfold encodeE
      split <;> simp [leBytes_len]
  · simp
theorem root_streams (d : DiskM) (me : Nat) (a : Acc) : (streamsM d me a).root = d.root := by
  unfold streamsM turnD setRowM
  repeat' split
  all_goals rfl
theorem room_append (d : DiskM) (me : Nat) (b : List UInt8) : room me (streamsM d me { kind := 5, data := b }) ≤ room me d + b.length := by
  unfold room
  rw [root_streams]
  have : rowM (streamsM d me { kind := 5, data := b }) (d.root % 2) = (rowM d (d.root % 2)).modify me (fun s => appendM s b) := by
    unfold streamsM turnD setRowM
    rw [if_pos rfl]
    by_cases h : d.root % 2 = 0 <;> simp [rowM, h]
  rw [this]
  simp only [List.getD_eq_getElem?_getD, List.getElem?_modify_eq]
  cases (rowM d (d.root % 2))[me]? <;> simp [appendM]
theorem room_sync (d : DiskM) (me : Nat) : room me (streamsM d me { kind := 6 }) = room me d := by
  unfold room
  rw [root_streams]
  have : rowM (streamsM d me { kind := 6 }) (d.root % 2) = (rowM d (d.root % 2)).modify me syncM := by
    unfold streamsM turnD setRowM
    rw [if_neg (by decide)]
    by_cases h : d.root % 2 = 0 <;> simp [rowM, h]
  rw [this]
  simp only [List.getD_eq_getElem?_getD, List.getElem?_modify_eq]
  cases (rowM d (d.root % 2))[me]? <;> simp [syncM]
theorem room_saved (me : Nat) (d : DiskM) (e : EntryM) : room me (savedD me d e) ≤ room me d + 47 := by
  unfold savedD
  rw [room_sync]
  have := room_append d me (bytesOf e)
  have := bytesOf_len e
  omega
theorem Runs.disk {me : Nat} {x : WorldM} (e : EntryM) (h : room me x.disk + 47 ≤ 1000000000) : Runs me (diskP [{ kind := 5, data := bytesOf e }, { kind := 6 }]) x true { x with disk := savedD me x.disk e } 2 := by
  have hb := bytesOf_len e
  unfold diskP
  refine Runs.ask (k := 1) (by simp) ?_ ?_
  · unfold fitD
    simp only [decide_eq_true_eq]
    intro _
    unfold room at h
    omega
  · have hs : worldStep me x { kind := 5, data := bytesOf e } = ({ x with disk := streamsM x.disk me { kind := 5, data := bytesOf e } }, {}) := rfl
    rw [hs]
    show Runs me (diskP [{ kind := 6 }]) _ _ _ 1
    unfold diskP
    refine Runs.ask (k := 0) (by simp) (by unfold fitD; simp) ?_
    exact Runs.ret _
end Go.Proofs.YtdfeinfaljidgaaDoor
