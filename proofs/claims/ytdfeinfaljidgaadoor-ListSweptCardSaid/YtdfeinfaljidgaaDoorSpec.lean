/- What the programs of packages pool, epoch, save, list and vert do, as trees of accesses (with fuel where they go round). Plain Lean. -/
import Derived.Test.YtdfeinfaljidgaaDoorWord
namespace Go.Proofs.YtdfeinfaljidgaaDoor
open Go Go.RowKit

/-! ### Entries, frames, the check -/
structure EntryM where
  kind : Nat
  stamp : Nat
  key : Nat := 0
  su : Nat := 0
  sv : Nat := 0
  w : Nat := 0
  deriving DecidableEq

def stampOk (n : Nat) : Bool := decide (0 < n) && decide (n < 4611686018427387904)
def entryMay (e : EntryM) : Bool :=
  if e.kind = 1 then
    stampOk e.stamp && rightKey e.key && (if e.key % 2147483648 = 0 then e.su == 0 && e.sv == 0 else stampOk e.su && stampOk e.sv)
  else if e.kind = 2 then stampOk e.stamp && e.key == 0 && e.su == 0 && e.sv == 0 && e.w == 0
  else if e.kind = 3 then decide (e.stamp ≤ 65536) && e.key == 0 && e.su == 0 && e.sv == 0 && e.w == 0
  else false
/-- The lowest 'many' bytes of n, the lowest one first. -/
def leBytes (n : Nat) : Nat → List UInt8
  | 0 => []
  | m + 1 => UInt8.ofNat (n % 256) :: leBytes (n / 256) m
def encodeE (e : EntryM) : List UInt8 :=
  UInt8.ofNat e.kind :: (leBytes e.stamp 8 ++ (if e.kind = 1 then leBytes e.key 8 ++ leBytes e.su 8 ++ leBytes e.sv 8 ++ leBytes e.w 8 else []))
def halvesL : List Nat := [0, 498536548, 997073096, 651767980, 1994146192, 1802195444, 1303535960, 1342533948, 3988292384, 4027552580, 3604390888, 3412177804, 2607071920, 2262029012, 2685067896, 3183342108]
def crcHalf (s : Nat) : Nat := s / 16 ^^^ halvesL.getD (s % 16) 0
def crcByte (s : Nat) (c : UInt8) : Nat := crcHalf (crcHalf (s ^^^ c.toNat))
def crcMore (s : Nat) (b : List UInt8) : Nat := 4294967295 - b.foldl crcByte (4294967295 - s)
def crcSum (b : List UInt8) : Nat := crcMore 0 b
def frameOf (b : List UInt8) : List UInt8 := if b.length < 1 ∨ 65535 < b.length then [] else leBytes b.length 2 ++ leBytes (crcSum b) 4 ++ b
def bytesOf (e : EntryM) : List UInt8 := if entryMay e then frameOf (encodeE e) else []

/-! ### epoch, pool -/
def limbo (e : Nat) : Nat := 4 + e % 3
def retireLoop (l t r : Nat) : Nat → Prog Unit
  | 0 => .stuck
  | n + 1 => do
    let h ← load l
    store (field t r 7) h
    let ok ← cas l h r
    if ok then pure () else retireLoop l t r n
def retireP (n t r : Nat) : Prog Unit := do
  let e ← load 3
  retireLoop (limbo e) t r n
def popP (t : Nat) : Nat → Prog Nat
  | 0 => .stuck
  | n + 1 => do
    let w ← load 1
    if first w = 0 then pure 0 else
      let x ← load (field t (first w) 7)
      let ok ← cas 1 w (top (first x) (tag w + 1))
      if ok then pure (first w) else popP t n
def pushP (t r : Nat) : Nat → Prog Unit
  | 0 => .stuck
  | n + 1 => do
    let w ← load 1
    store (field t r 7) (first w)
    let ok ← cas 1 w (top r (tag w + 1))
    if ok then pure () else pushP t r n
def pinP (me : Nat) : Prog Unit := do
  let e ← load 3
  store (8 + me : Nat) ((e + 1) % W64)
def unpinP (me : Nat) : Prog Unit := store (8 + me : Nat) 0
/-- May the epoch e be gone on from: each pin from i on, of k threads. -/
def pinsP (e : Nat) : Nat → Nat → Prog Bool
  | _, 0 => pure true
  | i, k + 1 => do
    let p ← load (8 + i : Nat)
    if p ≠ 0 ∧ p ≠ (e + 1) % W64 then pure false else pinsP e (i + 1) k
def chainP (t : Nat) (fuel : Nat) : Nat → Nat → Prog Unit
  | 0, _ => .stuck
  | n + 1, r => if r = 0 then pure () else do
    let x ← load (field t r 7)
    pushP t r fuel
    chainP t fuel n (first x)
def advanceP (n t : Nat) : Prog Bool := do
  let e ← load 3
  let may ← pinsP e 0 t
  if may = false then pure false else
    let ok ← cas 3 e ((e + 1) % W64)
    if ok = false then pure false else
      let h ← swap (limbo ((e + 2) % W64)) 0
      chainP t n n (first h)
      pure true
def allocTries (n t me : Nat) : Nat → Nat → Prog Nat
  | 0, r => pure r
  | k + 1, r => if r ≠ 0 then pure r else do
    pinP me
    let _ ← advanceP n t
    let r' ← popP t n
    allocTries n t me k r'
def allocP (n t me : Nat) : Prog Nat := do
  let r ← popP t n
  allocTries n t me 3 r

/-! ### save -/
def makeP (t r : Nat) (k ends su sv w : Nat) : Prog Nat := do
  let n ← add 2 1
  let st := (n + 1) % W64
  store (field t r 2) (flag st 0)
  store (field t r 1) k
  store (field t r 3) ends
  store (field t r 4) su
  store (field t r 5) sv
  store (field t r 6) w
  pure st
def flagP (t r : Nat) : Prog Nat := load (field t r 2)
def setLoop (t r bit : Nat) (over : Nat → Bool) : Nat → Prog Unit
  | 0 => .stuck
  | n + 1 => do
    let f ← flagP t r
    if over f then pure () else
      let ok ← cas (field t r 2) f (f ||| bit)
      if ok then pure () else setLoop t r bit over n
def setP (n t r bit : Nat) : Prog Unit := setLoop t r bit (fun f => hasBit f bit) n
def entryP (t r bit f : Nat) : Prog EntryM :=
  if bit = 1 then do
    let k ← load (field t r 1)
    let su ← load (field t r 4)
    let sv ← load (field t r 5)
    let w ← load (field t r 6)
    pure { kind := 1, stamp := stamp f, key := k, su := su, sv := sv, w := w }
  else pure { kind := 2, stamp := stamp f }
/-- Accesses of a disk, up to the first that fails. -/
def diskP : List Acc → Prog Bool
  | [] => pure true
  | a :: l => do
    let r ← ask a
    if r.fail then pure false else diskP l
def restP (n t r bit f : Nat) : Prog Bool :=
  if hasBit f bit then pure true else do
    let e ← entryP t r bit f
    let ok ← diskP [{ kind := 5, data := bytesOf e }, { kind := 6 }]
    if ok = false then pure false else
      setLoop t r bit (fun g => stamp g != stamp f || hasBit g bit) n
      pure true
def saveP (n t r bit : Nat) : Prog Bool := do
  let f ← flagP t r
  restP n t r bit f

/-! ### list -/
/-- To take out the record x behind p: not ok; not done; done. -/
def outP (n t p x nx : Nat) : Prog (Bool × Bool) := do
  let ok ← saveP n t x 2
  if ok = false then pure (false, false) else
    let done ← cas (next t p) (link x false) (link (ref nx) false)
    if done = false then pure (false, true) else
      retireP n t x
      pure (true, true)
/-- Along the list: 'stop' is told a state of its own, where the walk is, and the next word; it answers its state, whether the walk stops, and whether it stays. What comes out: whether the disk didn't fail, the state, and where. -/
def alongP {γ : Type} (n t : Nat) (stop : γ → Nat → Nat → Prog (γ × Bool × Bool)) : Nat → γ → Nat → Nat → Prog (Bool × γ × Nat × Nat)
  | 0, _, _, _ => .stuck
  | k + 1, x, p, c =>
    if c = 0 then pure (true, x, p, 0) else do
      let nx ← load (field t c 0)
      if marked nx then
        let o ← outP n t p c nx
        if o.2 = false then pure (false, x, p, c) else
          if o.1 = false then
            let h ← load 0
            alongP n t stop k x 0 (ref h)
          else alongP n t stop k x p (ref nx)
      else
        let a ← stop x c nx
        if a.2.1 then pure (true, a.1, p, c) else
          if a.2.2 then alongP n t stop k a.1 p c else alongP n t stop k a.1 c (ref nx)
def walkP {γ : Type} (n t : Nat) (stop : γ → Nat → Nat → Prog (γ × Bool × Bool)) (x : γ) : Prog (Bool × γ × Nat × Nat) := do
  let h ← load 0
  alongP n t stop n x 0 (ref h)
def searchStop (t k : Nat) (_ : Bool) (c _nx : Nat) : Prog (Bool × Bool × Bool) := do
  let n ← load (field t c 1)
  pure (n == k, decide (k ≤ n), false)
def searchP (n t k : Nat) : Prog (Nat × Nat × Bool × Bool) := do
  let a ← walkP n t (searchStop t k) false
  if a.1 = false then pure (0, 0, false, false) else pure (a.2.2.1, a.2.2.2, a.2.1 && a.2.2.2 != 0, true)
def seekLoop (t k : Nat) : Nat → Nat → Prog (Nat × Bool)
  | 0, _ => .stuck
  | n + 1, c => if c = 0 then pure (0, false) else do
    let x ← load (field t c 1)
    if k ≤ x then pure (c, x == k) else
      let nx ← load (field t c 0)
      seekLoop t k n (ref nx)
def seekP (n t f k : Nat) : Prog (Nat × Bool) := do
  let h ← load (next t f)
  seekLoop t k n (ref h)
def linkP (t p c r : Nat) : Prog Bool := do
  store (next t r) (link c false)
  cas (next t p) (link c false) (link r false)
def markP (t r : Nat) : Prog Bool := do
  let nx ← load (next t r)
  if marked nx then pure false else cas (next t r) nx (nx + 1)
def sweepStop (n t st : Nat) (_ : Unit) (c nx : Nat) : Prog (Unit × Bool × Bool) := do
  let k ← load (field t c 1)
  if k % 2147483648 = 0 then pure ((), false, false) else
    let su ← load (field t c 4)
    let sv ← load (field t c 5)
    if su ≠ st ∧ sv ≠ st then pure ((), false, false) else
      let ok ← cas (next t c) nx (nx + 1)
      if ok then
        setP n t c 2
        pure ((), false, true)
      else pure ((), false, true)
def sweepP (n t st : Nat) : Prog Bool := do
  let a ← walkP n t (sweepStop n t st) ()
  pure a.1

/-- list.Next's programs. -/
def listP (n t : Nat) (op : OpM) : Prog OutM :=
  if op.kind = 8 then do
    let a ← searchP n t op.w
    if a.2.2.2 = false then pure { err := 7 } else pure { n := a.2.1, w := a.1, is := a.2.2.1 }
  else if op.kind = 25 then do
    let a ← seekP n t op.u.toNat op.w
    pure { n := a.1, is := a.2 }
  else if op.kind = 24 then do
    let ok ← linkP t op.u.toNat op.v.toNat op.w
    pure { is := ok }
  else if op.kind = 9 then do
    let ok ← markP t op.u.toNat
    pure { is := ok }
  else if op.kind = 10 then do
    let ok ← sweepP n t op.w
    pure { err := if ok then 0 else 7 }
  else pure { err := 1 }

/-! ### vert -/
def toldP (n t r bit : Nat) (is : Bool) : Prog (OutM × Bool) := do
  let ok ← saveP n t r bit
  pure ({ is := is }, ok)
def addLoop (n t k r : Nat) : Nat → Prog (OutM × Bool)
  | 0 => .stuck
  | m + 1 => do
    let a ← searchP n t k
    if a.2.2.2 = false then
      pushP t r n
      pure ({}, false)
    else if a.2.2.1 then
      pushP t r n
      toldP n t a.2.1 1 false
    else
      let ok ← linkP t a.1 a.2.1 r
      if ok then toldP n t r 1 true else addLoop n t k r m
def addVP (n t me k : Nat) : Prog (OutM × Bool) := do
  let a ← searchP n t k
  if a.2.2.2 = false then pure ({}, false)
  else if a.2.2.1 then toldP n t a.2.1 1 false
  else
    let r ← allocP n t me
    if r = 0 then pure ({ err := 3 }, true) else
      let _ ← makeP t r k 0 0 0 0
      addLoop n t k r n
def remVP (n t k : Nat) : Nat → Prog (OutM × Bool)
  | 0 => .stuck
  | m + 1 => do
    let a ← searchP n t k
    if a.2.2.2 = false ∨ a.2.2.1 = false then pure ({}, a.2.2.2) else
      let ok ← markP t a.2.1
      if ok = false then remVP n t k m else
        let f ← load (field t a.2.1 2)
        let o ← toldP n t a.2.1 2 true
        if o.2 = false then pure (o.1, false) else
          let sw ← sweepP n t (stamp f)
          pure (o.1, sw)
def hasVP (n t k : Nat) : Prog (OutM × Bool) := do
  let a ← seekP n t 0 k
  if a.2 = false then pure ({}, true) else
    let nx ← load (next t a.1)
    if marked nx then toldP n t a.1 2 false else toldP n t a.1 1 true
def inP (me : Nat) (body : Prog (OutM × Bool)) : Prog OutM := do
  let s ← load 7
  if s ≠ 0 then pure { err := 6 } else
    pinP me
    let a ← body
    if a.2 = false then
      store 7 1
      unpinP me
      pure { err := 7 }
    else
      unpinP me
      pure a.1
def isVertex (u : Int) : Bool := decide (0 ≤ u) && decide (u < 1073741824)
def vertP (n t me : Nat) (op : OpM) : Prog OutM :=
  if op.kind = 11 ∨ op.kind = 12 ∨ op.kind = 13 then
    if isVertex op.u then
      inP me (if op.kind = 11 then addVP n t me (vkey op.u.toNat) else if op.kind = 12 then remVP n t (vkey op.u.toNat) n else hasVP n t (vkey op.u.toNat))
    else pure { err := 4 }
  else pure { err := 1 }

end Go.Proofs.YtdfeinfaljidgaaDoor
