/- ListSwept, in plain data: rows of records with ends, swept. Plain Lean. -/
import Derived.Test.YtdfeinfaljidgaaDoorSeeksPlain
namespace Go.Proofs.YtdfeinfaljidgaaDoor
open Go Go.RowKit

theorem put_put {x : WorldM} {i a b : Nat} : (x.put i a).put i b = x.put i b := by simp [WorldM.put]

/-- A record whose own words are laid is linked behind the last one. -/
def linkedRow (i : Nat) (m : Bool) (y : WorldM) : WorldM :=
  let z := y.put (next 1 i) (y.get (next 1 i) + 2 * (i + 1))
  if m then z.put (next 1 (i + 1)) 1 else z
theorem linkedRow_len {i : Nat} {m : Bool} {x : WorldM} : (linkedRow i m x).len = x.len := by unfold linkedRow; split <;> simp
theorem linkedRow_disk {i : Nat} {m : Bool} {x : WorldM} : (linkedRow i m x).disk = x.disk := by unfold linkedRow; split <;> rfl
theorem linkedRow_T {i : Nat} {m : Bool} {x : WorldM} : (linkedRow i m x).mem.T = x.mem.T := by unfold linkedRow; split <;> rfl
theorem linkedRow_get {i : Nat} {m : Bool} {x : WorldM} {C : Nat} (h : Dim 1 C x) (hi : i + 1 ≤ C) (j : Nat) :
    (linkedRow i m x).get j = if j = next 1 (i + 1) ∧ m = true then 1 else if j = next 1 i then x.get (next 1 i) + 2 * (i + 1) else x.get j := by
  have e : ∀ j, (x.put (next 1 i) (x.get (next 1 i) + 2 * (i + 1))).get j = if j = next 1 i then x.get (next 1 i) + 2 * (i + 1) else x.get j := by
    intro j
    by_cases h1 : j = next 1 i
    · rw [if_pos h1, h1, get_put_same]; exact h.next (by omega)
    rw [if_neg h1, get_put_ne h1]
  unfold linkedRow
  cases m
  · simp only [Bool.false_eq_true, if_false, and_false]
    exact e j
  · simp only [if_true, and_true]
    by_cases h1 : j = next 1 (i + 1)
    · rw [if_pos h1, h1, get_put_same]; exact h.put.next hi
    · rw [if_neg h1, get_put_ne h1]; exact e j
theorem next_pos {t r : Nat} (hr : 1 ≤ r) : next t r = field t r 0 := by unfold next; rw [if_neg (by omega)]
theorem led_nodes {C i : Nat} {ms : List Bool} {y : WorldM} (h : Lst 1 C y (nodesTo ms i)) : y.get (next 1 i) = if i = 0 then 0 else link 0 (ms.getD (i - 1) false) := by
  by_cases h0 : i = 0
  · subst h0
    rw [if_pos rfl]
    have := h.head
    rw [hdD_nodes, if_pos rfl] at this
    exact this
  · rw [if_neg h0, next_pos (by omega)]
    have := (chn_nodes.1 h.chn) (i - 1) (by omega)
    rw [show i - 1 + 1 = i from by omega, if_neg (by omega)] at this
    exact this
theorem linkedRow_lst {C i : Nat} {ms : List Bool} {y : WorldM} (h : Lst 1 C y (nodesTo ms i)) (hz : y.get (field 1 (i + 1) 0) = 0) (hi : i + 1 ≤ C) : Lst 1 C (linkedRow i (ms.getD i false) y) (nodesTo ms (i + 1)) := by
  have hg := linkedRow_get (m := ms.getD i false) h.dim hi
  have hled := led_nodes h
  refine ⟨⟨linkedRow_len.trans h.dim.len, h.dim.T, h.dim.C⟩, ?_, ?_, ?_, ?_⟩
  · intro a ha; have := mem_nodesTo ha; omega
  · rw [nodesTo_succ, List.map_append, List.nodup_append]
    refine ⟨h.nodup, by simp, ?_⟩
    intro a ha b hb
    obtain ⟨c, hc, rfl⟩ := List.mem_map.1 ha
    have := mem_nodesTo hc
    simp at hb; omega
  · rw [hdD_nodes, if_neg (by omega), hg, if_neg (by rw [next_pos (by omega)]; unfold field; omega)]
    by_cases h0 : i = 0
    · subst h0
      rw [if_pos (show 0 = next 1 0 from rfl), hled, if_pos rfl]; rfl
    · rw [if_neg (by rw [next_pos (by omega)]; unfold field; omega), h.head, hdD_nodes, if_neg h0]
  · rw [chn_nodes]
    intro j hj
    rw [hg, next_pos (r := i + 1) (by omega)]
    by_cases hji : j = i
    · subst hji
      rw [if_neg (show ¬ j + 1 < j + 1 from by omega)]
      by_cases hm : ms.getD j false = true
      · rw [if_pos ⟨rfl, hm⟩, hm]; rfl
      · rw [if_neg (fun h => hm h.2), if_neg (by unfold next; split <;> unfold field <;> omega), hz]
        have : ms.getD j false = false := by simpa using hm
        rw [this]; rfl
    · have hold := (chn_nodes.1 h.chn) j (by omega)
      rw [if_neg (by unfold field; omega)]
      by_cases hl : j + 1 = i
      · subst hl
        rw [if_pos (next_pos (by omega)).symm, hled, if_neg (by omega), if_pos (by omega), show j + 1 - 1 = j from by omega]
        unfold link; omega
      · rw [if_neg (by unfold next; split <;> unfold field <;> omega), hold]
        by_cases h3 : j + 1 < i
        · rw [if_pos h3, if_pos (by omega)]
        · omega

/-! ### Rows with ends -/
def eAt (es : List UInt8) (r : Nat) : Nat := (es.getD (r - 1) 0).toNat
def suS (es : List UInt8) (r : Nat) : Nat := eAt es r % 4
def svS (es : List UInt8) (r : Nat) : Nat := eAt es r / 4 % 4
def vertexS (es : List UInt8) (r : Nat) : Bool := decide (128 ≤ eAt es r)
def keyS (es : List UInt8) (r : Nat) : Nat := if vertexS es r then r * 2147483648 else 2 * r
/-- Is it an edge with the stamp at one of its ends? -/
def deadS (es : List UInt8) (st r : Nat) : Bool := !vertexS es r && (suS es r == st || svS es r == st)
def sweptRow (es : List UInt8) (i : Nat) (m : Bool) (x : WorldM) : WorldM :=
  linkedRow i m ((((x.put (field 1 (i + 1) 1) (keyS es (i + 1))).put (field 1 (i + 1) 2) (4 * (i + 1))).put (field 1 (i + 1) 4) (suS es (i + 1))).put (field 1 (i + 1) 5) (svS es (i + 1)))
structure LaidS (C : Nat) (es : List UInt8) (ms : List Bool) (i : Nat) (x : WorldM) : Prop where
  lst : Lst 1 C x (nodesTo ms i)
  key : ∀ r, 1 ≤ r → r ≤ i → x.get (field 1 r 1) = keyS es r
  flag : ∀ r, 1 ≤ r → r ≤ i → x.get (field 1 r 2) = 4 * r
  su : ∀ r, 1 ≤ r → r ≤ i → x.get (field 1 r 4) = suS es r
  sv : ∀ r, 1 ≤ r → r ≤ i → x.get (field 1 r 5) = svS es r
  rest : ∀ r f, i < r → r ≤ C → f < 7 → x.get (field 1 r f) = 0
theorem laidS_new {C : Nat} (hC : C ≤ 65536) (es : List UInt8) (ms : List Bool) : LaidS C es ms 0 (newW 1 C) :=
  ⟨new_lst (by omega) hC, fun _ _ _ => by omega, fun _ _ _ => by omega, fun _ _ _ => by omega, fun _ _ _ => by omega, fun _ _ hr hC hf => new_field (by omega) hC hf⟩
theorem LaidS.step {C : Nat} {es : List UInt8} {ms : List Bool} {i : Nat} {x : WorldM} (h : LaidS C es ms i x) (hi : i + 1 ≤ C) : LaidS C es ms (i + 1) (sweptRow es i (ms.getD i false) x) := by
  obtain ⟨y, hy⟩ : ∃ y, y = (((x.put (field 1 (i + 1) 1) (keyS es (i + 1))).put (field 1 (i + 1) 2) (4 * (i + 1))).put (field 1 (i + 1) 4) (suS es (i + 1))).put (field 1 (i + 1) 5) (svS es (i + 1)) := ⟨_, rfl⟩
  have hd := h.lst.dim
  have hdy : Dim 1 C y := by rw [hy]; exact hd.put.put.put.put
  have hgy : ∀ j, y.get j = if j = field 1 (i + 1) 5 then svS es (i + 1) else if j = field 1 (i + 1) 4 then suS es (i + 1) else if j = field 1 (i + 1) 2 then 4 * (i + 1) else if j = field 1 (i + 1) 1 then keyS es (i + 1) else x.get j := by
    intro j
    rw [hy]
    by_cases h5 : j = field 1 (i + 1) 5
    · rw [if_pos h5, h5, get_put_same]; exact hd.put.put.put.field (by omega) hi (by decide)
    rw [if_neg h5, get_put_ne h5]
    by_cases h4 : j = field 1 (i + 1) 4
    · rw [if_pos h4, h4, get_put_same]; exact hd.put.put.field (by omega) hi (by decide)
    rw [if_neg h4, get_put_ne h4]
    by_cases h2 : j = field 1 (i + 1) 2
    · rw [if_pos h2, h2, get_put_same]; exact hd.put.field (by omega) hi (by decide)
    rw [if_neg h2, get_put_ne h2]
    by_cases h1 : j = field 1 (i + 1) 1
    · rw [if_pos h1, h1, get_put_same]; exact hd.field (by omega) hi (by decide)
    rw [if_neg h1, get_put_ne h1]
  have hy0 : ∀ j, (∀ f, f < 8 → 1 ≤ f → j ≠ field 1 (i + 1) f) → y.get j = x.get j := fun j hj => by
    rw [hgy, if_neg (hj 5 (by omega) (by omega)), if_neg (hj 4 (by omega) (by omega)), if_neg (hj 2 (by omega) (by omega)), if_neg (hj 1 (by omega) (by omega))]
  have hl : Lst 1 C y (nodesTo ms i) := h.lst.keep hdy (hy0 0 fun f _ _ => by unfold field; omega) fun a ha => hy0 _ fun f _ _ => by have := mem_nodesTo ha; unfold field; omega
  have hz : y.get (field 1 (i + 1) 0) = 0 := by rw [hy0 _ fun f _ _ => by unfold field; omega]; exact h.rest _ _ (by omega) hi (by decide)
  have hg := linkedRow_get (m := ms.getD i false) hdy hi
  have hs : sweptRow es i (ms.getD i false) x = linkedRow i (ms.getD i false) y := by rw [hy]; rfl
  rw [hs]
  have hn : ∀ f r, 1 ≤ f → f < 8 → 1 ≤ r → (linkedRow i (ms.getD i false) y).get (field 1 r f) = y.get (field 1 r f) := fun f r h1 h2 h3 => by
    rw [hg, if_neg (fun h => (Ne.symm (next_field (t := 1) (p := i + 1) h1 h2 h3)) h.1), if_neg (Ne.symm (next_field h1 h2 h3))]
  have hold : ∀ f r, 1 ≤ f → f < 8 → 1 ≤ r → r ≤ i → (linkedRow i (ms.getD i false) y).get (field 1 r f) = x.get (field 1 r f) := fun f r h1 h2 h3 h4 => by
    rw [hn f r h1 h2 h3, hy0]; intro f' _ _; unfold field; omega
  refine ⟨linkedRow_lst hl hz hi, ?_, ?_, ?_, ?_, ?_⟩
  · intro r h1 h2
    by_cases hr : r = i + 1
    · subst hr; rw [hn 1 _ (by omega) (by omega) h1, hgy, if_neg (by unfold field; omega), if_neg (by unfold field; omega), if_neg (by unfold field; omega), if_pos rfl]
    · rw [hold 1 r (by omega) (by omega) h1 (by omega)]; exact h.key r h1 (by omega)
  · intro r h1 h2
    by_cases hr : r = i + 1
    · subst hr; rw [hn 2 _ (by omega) (by omega) h1, hgy, if_neg (by unfold field; omega), if_neg (by unfold field; omega), if_pos rfl]
    · rw [hold 2 r (by omega) (by omega) h1 (by omega)]; exact h.flag r h1 (by omega)
  · intro r h1 h2
    by_cases hr : r = i + 1
    · subst hr; rw [hn 4 _ (by omega) (by omega) h1, hgy, if_neg (by unfold field; omega), if_pos rfl]
    · rw [hold 4 r (by omega) (by omega) h1 (by omega)]; exact h.su r h1 (by omega)
  · intro r h1 h2
    by_cases hr : r = i + 1
    · subst hr; rw [hn 5 _ (by omega) (by omega) h1, hgy, if_pos rfl]
    · rw [hold 5 r (by omega) (by omega) h1 (by omega)]; exact h.sv r h1 (by omega)
  · intro r f h1 h2 h3
    rw [hg, if_neg (by rw [next_pos (by omega)]; unfold field; omega), if_neg (by unfold next; split <;> unfold field <;> omega), hy0]
    · exact h.rest r f (by omega) h2 h3
    · intro f' _ _; unfold field; omega
theorem sweptRow_disk {es : List UInt8} {i : Nat} {m : Bool} {x : WorldM} : (sweptRow es i m x).disk = x.disk := linkedRow_disk
theorem sweptRow_T {es : List UInt8} {i : Nat} {m : Bool} {x : WorldM} : (sweptRow es i m x).mem.T = x.mem.T := linkedRow_T

theorem sweptRow_eq {es : List UInt8} {i r kv r4 su sv nv : Nat} {x : WorldM} (hr : r = i + 1) (hk : kv = keyS es r) (h4 : r4 = 4 * r) (hsu : su = suS es r) (hsv : sv = svS es r) (hn : nv = x.get (next 1 i) + 2 * r) :
    ((((x.put (field 1 r 1) kv).put (field 1 r 2) r4).put (field 1 r 4) su).put (field 1 r 5) sv).put (next 1 i) nv = sweptRow es i false x := by
  subst hr hk h4 hsu hsv hn
  unfold sweptRow linkedRow
  simp only [Bool.false_eq_true, if_false]
  rw [get_put_ne (next_field (by decide) (by decide) (by omega)), get_put_ne (next_field (by decide) (by decide) (by omega)), get_put_ne (next_field (by decide) (by decide) (by omega)), get_put_ne (next_field (by decide) (by decide) (by omega))]
theorem sweptRow_mark {es : List UInt8} {i r : Nat} {x : WorldM} (hr : r = i + 1) : (sweptRow es i false x).put (next 1 r) 1 = sweptRow es i true x := by subst hr; rfl
theorem sweptRow_len {es : List UInt8} {i : Nat} {m : Bool} {x : WorldM} : (sweptRow es i m x).len = x.len := by unfold sweptRow; rw [linkedRow_len]; simp
theorem ends_ok {es : List UInt8} {ms : List Bool} {i st : Nat} {x : WorldM} (h : LaidS 10 es ms i x) (hi : i ≤ 10) : Ends 1 x st (deadS es st) (nodesTo ms i) := by
  refine ⟨fun a ha => ?_⟩
  have hm := mem_nodesTo ha
  rw [h.key a.1 hm.1 hm.2, h.su a.1 hm.1 hm.2, h.sv a.1 hm.1 hm.2]
  unfold deadS keyS
  cases vertexS es a.1
  · simp only [Bool.not_false, Bool.true_and, Bool.false_eq_true, if_false]
    have : (2 * a.1 % 2147483648 != 0) = true := by rw [bne_iff_ne]; omega
    rw [this, Bool.true_and]
  · simp only [Bool.not_true, Bool.false_and, if_true, Nat.mul_mod_left, bne_self_eq_false]

/-- Flags tell that they are dead. -/
def FlagsTell (n : Nat) (x : WorldM) (L : List Node) : Prop :=
  (∀ r, 1 ≤ r → r ≤ n → (∀ a, a ∈ L → a.1 ≠ r) → hasBit (x.get (field 1 r 2)) 2 = true) ∧ (∀ r, (r, false) ∈ L → hasBit (x.get (field 1 r 2)) 2 = false)
theorem flags_out {me n : Nat} : OutKeeps me 1 10 (FlagsTell n) := by
  intro x A c B hL hA hc hI
  have hcm := hL.mem c (by simp)
  have hne := notin_out hL.nodup
  have hl := limbo_lt (x.get 3)
  have hget := outW_get (me := me) (nx := x.get (field 1 c.1 0)) hL.dim hL.last_le hcm.1 hcm.2
  have hflag : ∀ r, 1 ≤ r → (outW me 1 (lastD 0 A) c.1 (x.get (field 1 c.1 0)) x).get (field 1 r 2) = if r = c.1 then withBit (x.get (field 1 c.1 2)) 2 else x.get (field 1 r 2) := by
    intro r hr
    rw [hget, if_neg (by unfold field; omega), if_neg (by unfold field; omega), if_neg (Ne.symm (next_field (by decide) (by decide) hr))]
    by_cases h : r = c.1
    · rw [if_pos (by rw [h]), if_pos h]
    · rw [if_neg (by unfold field; omega), if_neg h]
  refine ⟨fun r h1 h2 h3 => ?_, fun r hr => ?_⟩
  · rw [hflag r h1]
    by_cases h : r = c.1
    · rw [if_pos h]; exact withBit_has2 _
    · rw [if_neg h]
      refine hI.1 r h1 h2 fun a ha => ?_
      rcases List.mem_append.1 ha with ha | ha
      · exact h3 a (by simp [ha])
      · rcases List.mem_cons.1 ha with rfl | ha
        · exact fun e => h e.symm
        · exact h3 a (by simp [ha])
  · have hrm := hL.mem (r, false) (by rcases List.mem_append.1 hr with h | h <;> simp [h])
    rw [hflag r hrm.1, if_neg (hne _ hr)]
    exact hI.2 r (by rcases List.mem_append.1 hr with h | h <;> simp [h])
theorem flags_mark {n : Nat} {dead : Nat → Bool} : MarkKeeps 1 10 dead (FlagsTell n) := by
  intro x A r B hL hA hd hI
  have hrm := hL.mem (r, false) (by simp)
  have hne := notin_out hL.nodup
  have hflag : ∀ q, 1 ≤ q → q ≠ r → (setW 1 r 2 (markedW 1 r x)).get (field 1 q 2) = x.get (field 1 q 2) := fun q hq h => by
    rw [setW_get (by unfold field; omega), markedW_get (by unfold field; omega)]
  refine ⟨fun q h1 h2 h3 => ?_, fun q hq => ?_⟩
  · have hqr : q ≠ r := fun e => h3 (r, true) (by simp) e.symm
    rw [hflag q h1 hqr]
    refine hI.1 q h1 h2 fun a ha => ?_
    rcases List.mem_append.1 ha with ha | ha
    · exact h3 a (by simp [ha])
    · rcases List.mem_cons.1 ha with rfl | ha
      · exact fun e => hqr e.symm
      · exact h3 a (by simp [ha])
  · have hq' : (q, false) ∈ A ++ B := by
      rcases List.mem_append.1 hq with h | h
      · simp [h]
      · rcases List.mem_cons.1 h with h | h
        · simp at h
        · simp [h]
    have hqr : q ≠ r := hne _ hq'
    rw [hflag q (hL.mem (q, false) (by rcases List.mem_append.1 hq' with h | h <;> simp [h])).1 hqr]
    exact hI.2 q (by rcases List.mem_append.1 hq' with h | h <;> simp [h])

/-- Who stays. -/
def staysS (es : List UInt8) (ms : List Bool) (st r : Nat) : Bool := !ms.getD (r - 1) false && !deadS es st r
def stayTo (es : List UInt8) (ms : List Bool) (st i : Nat) : List Int := ((List.range i).filter fun j => staysS es ms st (j + 1)).map fun j => ((j + 1 : Nat) : Int)
theorem stayTo_succ (es : List UInt8) (ms : List Bool) (st i : Nat) : stayTo es ms st (i + 1) = stayTo es ms st i ++ (if staysS es ms st (i + 1) then [((i + 1 : Nat) : Int)] else []) := by
  unfold stayTo
  rw [List.range_succ, List.filter_append, List.map_append]
  congr 1
  by_cases h : staysS es ms st (i + 1) = true
  · simp [h]
  · simp [h]
theorem stayTo_le (es : List UInt8) (ms : List Bool) (st i : Nat) : (stayTo es ms st i).length ≤ i := by
  unfold stayTo
  rw [List.length_map]
  exact Nat.le_trans (List.length_filter_le _ _) (by simp)
theorem stayTo_swept (es : List UInt8) (ms : List Bool) (st i : Nat) : (sweptL (deadS es st) (nodesTo ms i)).map (fun a => (a.1 : Int)) = stayTo es ms st i := by
  induction i with
  | zero => rfl
  | succ i ih =>
    rw [stayTo_succ, nodesTo_succ, ← ih]
    unfold sweptL
    rw [List.filter_append, List.map_append]
    congr 1
    unfold staysS
    rw [show i + 1 - 1 = i from rfl]
    by_cases h : (!ms.getD i false && !deadS es st (i + 1)) = true
    · rw [if_pos h, List.filter_cons_of_pos (p := fun a : Node => !a.2 && !deadS es st a.1) h]; rfl
    · rw [if_neg h, List.filter_cons_of_neg (p := fun a : Node => !a.2 && !deadS es st a.1) h]; rfl
theorem stayTo_split (es : List UInt8) (ms : List Bool) (st : Nat) {i n : Nat} (h : i ≤ n) : ∃ T, stayTo es ms st n = stayTo es ms st i ++ T ∧ ∀ a, a ∈ T → (i : Int) < a := by
  induction n with
  | zero => exact ⟨[], by rw [show i = 0 from by omega]; simp, by simp⟩
  | succ n ih =>
    by_cases hi : i = n + 1
    · exact ⟨[], by rw [hi]; simp, by simp⟩
    · obtain ⟨T, h1, h2⟩ := ih (by omega)
      refine ⟨T ++ (if staysS es ms st (n + 1) then [((n + 1 : Nat) : Int)] else []), by rw [stayTo_succ, h1, List.append_assoc], ?_⟩
      intro a ha
      rcases List.mem_append.1 ha with ha | ha
      · exact h2 a ha
      · split at ha
        · simp at ha; omega
        · simp at ha
/-- The next one that stays is this one just where this one stays. -/
theorem stayTo_at {es : List UInt8} {ms : List Bool} {st i n : Nat} (h : i < n) : (stayTo es ms st n)[(stayTo es ms st i).length]? = some ((i + 1 : Nat) : Int) ↔ staysS es ms st (i + 1) = true := by
  obtain ⟨T, h1, h2⟩ := stayTo_split es ms st (show i + 1 ≤ n from h)
  rw [h1, stayTo_succ]
  by_cases hs : staysS es ms st (i + 1) = true
  · rw [if_pos hs]
    simp [hs]
  · rw [if_neg hs]
    rw [List.append_nil, List.getElem?_append_right (Nat.le_refl _), Nat.sub_self]
    refine ⟨fun h3 => ?_, fun h3 => absurd h3 hs⟩
    have := h2 _ (List.mem_of_getElem? h3)
    omega
theorem sweeps_run {es : List UInt8} {ms : List Bool} {i st : Nat} {x : WorldM} (h : LaidS 10 es ms i x) (hi : i ≤ 10) (hd : x.disk = newD 1) :
    ∃ z rs, runW 0 (listP 50 1 { kind := 10, u := (0 : Nat), v := (0 : Nat), w := st }) x = some ({}, z, rs) ∧ rs.length ≤ 400 ∧ Lst 1 10 z (sweptL (deadS es st) (nodesTo ms i)) ∧ ∀ r, 1 ≤ r → r ≤ i → hasBit (z.get (field 1 r 2)) 2 = !staysS es ms st r := by
  have hI : FlagsTell i x (nodesTo ms i) := by
    refine ⟨fun r h1 h2 h3 => absurd rfl (h3 (r, ms.getD (r - 1) false) (List.mem_map.2 ⟨r - 1, List.mem_range.2 (by omega), by rw [show r - 1 + 1 = r from by omega]⟩)), fun r hr => ?_⟩
    have := mem_nodesTo hr
    rw [h.flag r this.1 this.2]
    unfold hasBit
    simp
    omega
  obtain ⟨z, h1, h2, h3, h4, _⟩ := sweep_runs (me := 0) (n := 50) (deadS es st) (FlagsTell i) flags_out flags_mark h.lst (by rw [nodesTo_length]; omega) (ends_ok h hi) hI (by rw [runs_okD hd, nodesTo_length]; omega)
  rw [nodesTo_length] at h1
  have : Runs 0 (listP 50 1 { kind := 10, u := (0 : Nat), v := (0 : Nat), w := st }) x {} z 400 := Runs.seq (l := 0) h1 (Runs.pure _) (by omega)
  obtain ⟨rs, h5, h6⟩ := this
  refine ⟨z, rs, h5, h6, h2, fun r hr1 hr2 => ?_⟩
  by_cases hs : staysS es ms st r = true
  · rw [hs]
    refine h4.2 r ?_
    unfold staysS at hs
    simp only [Bool.and_eq_true, Bool.not_eq_true'] at hs
    unfold sweptL
    rw [List.mem_filter]
    refine ⟨List.mem_map.2 ⟨r - 1, List.mem_range.2 (by omega), by rw [hs.1, show r - 1 + 1 = r from by omega]⟩, by simp [hs.2]⟩
  · rw [show staysS es ms st r = false from by simpa using hs]
    refine h4.1 r hr1 hr2 fun a ha e => ?_
    unfold sweptL at ha
    rw [List.mem_filter] at ha
    obtain ⟨j, hj, rfl⟩ := List.mem_map.1 ha.1
    simp only at e ha
    subst e
    apply hs
    unfold staysS
    rw [show j + 1 - 1 = j from rfl]
    exact ha.2
end Go.Proofs.YtdfeinfaljidgaaDoor
