/- What a link, a mark, a seek and a sweep make of a list in memory. Plain Lean. -/
import Derived.Test.YtdfeinfaljidgaaDoorLists
namespace Go.Proofs.YtdfeinfaljidgaaDoor
open Go Go.RowKit

section
variable {me t C n k : Nat} {x : WorldM} {A B L : List Node}

theorem link_lt_next {p r : Nat} (hr : 1 ≤ r) (h : p ≠ r) : next t p ≠ next t r := by
  have := next_ne (t := t) (p := p) (f := 0) h (by decide) hr
  intro e
  apply this
  rw [e]; unfold next; rw [if_neg (by omega)]

/-! ### Link -/
def linkedW (t p c r : Nat) (x : WorldM) : WorldM := (x.put (field t r 0) (link c false)).put (next t p) (link r false)
theorem link_runs {p c r : Nat} (h : Dim t C x) (hp : p ≤ C) (hr : 1 ≤ r) (hC : r ≤ C) (hpr : p ≠ r) (hl : x.get (next t p) = link c false) : Runs me (linkP t p c r) x true (linkedW t p c r x) 2 := by
  unfold linkP linkedW
  have hne : next t r = field t r 0 := by unfold next; rw [if_neg (by omega)]
  refine Runs.seq (l := 1) (Runs.store (i := field t r 0) (by rw [hne]) (h.field hr hC (by decide))) ?_ (by omega)
  refine Runs.cas rfl (h.put.next hp) ?_
  rw [get_put_ne (next_ne hpr (by decide) hr), hl]
theorem linkedW_dim {p c r : Nat} (h : Dim t C x) : Dim t C (linkedW t p c r x) := h.put.put
theorem linkedW_get {p c r : Nat} (h : Dim t C x) (hp : p ≤ C) (hr : 1 ≤ r) (hC : r ≤ C) (i : Nat) : (linkedW t p c r x).get i = if i = next t p then link r false else if i = field t r 0 then link c false else x.get i := by
  unfold linkedW
  by_cases h1 : i = next t p
  · rw [if_pos h1, h1, get_put_same (h.put.next hp)]
  · rw [if_neg h1, get_put_ne h1]
    by_cases h2 : i = field t r 0
    · rw [if_pos h2, h2, get_put_same (h.field hr hC (by decide))]
    · rw [if_neg h2, get_put_ne h2]
theorem Lst.link {r : Nat} (h : Lst t C x (A ++ B)) (hA : Bare A) (hr : 1 ≤ r) (hC : r ≤ C) (hn : ∀ a, a ∈ A ++ B → a.1 ≠ r) : Lst t C (linkedW t (lastD 0 A) (hdD 0 B) r x) (A ++ (r, false) :: B) := by
  have hg := linkedW_get (c := hdD 0 B) h.dim h.last_le hr hC
  have hpr : lastD 0 A ≠ r := by
    by_cases hA' : A = []
    · subst hA'; show 0 ≠ r; omega
    · obtain ⟨a, ha, e⟩ := lastD_mem (d := 0) hA'
      rw [e]; exact hn a (by simp [ha])
  have hne := next_ne (t := t) (f := 0) hpr (by decide) hr
  refine Lst.relink h (linkedW_dim h.dim) ?_ ?_ ?_ hA ?_ ?_
  · intro a ha
    rcases List.mem_cons.1 ha with rfl | ha
    · exact ⟨hr, hC⟩
    · exact h.mem a (by simp [ha])
  · have h2 : (r :: (A ++ B).map (·.1)).Nodup := by
      rw [List.nodup_cons]
      refine ⟨fun hm => ?_, h.nodup⟩
      obtain ⟨a, ha, e⟩ := List.mem_map.1 hm
      exact hn a ha e
    rw [List.map_append, List.map_cons]
    rw [List.map_append] at h2
    exact (List.Perm.nodup_iff List.perm_middle).2 h2
  · rw [hg, if_pos rfl]; rfl
  · refine ⟨?_, ?_⟩
    · show (linkedW _ _ _ _ x).get (field t r 0) = _
      rw [hg, if_neg (Ne.symm hne), if_pos rfl]
    · have hcB := h.chn
      rw [Chn.append] at hcB
      refine hcB.2.congr fun a ha => ?_
      have ha1 := h.mem a (by simp [ha])
      have := hn a (by simp [ha])
      rw [hg, if_neg, if_neg]
      · unfold field; omega
      · have hnd := h.nodup
        rw [List.map_append, List.nodup_append] at hnd
        by_cases hAe : A = []
        · subst hAe; show _ ≠ next t 0; unfold next field; rw [if_pos rfl]; omega
        · obtain ⟨b, hb, e⟩ := lastD_mem (d := 0) hAe
          have := hnd.2.2 b.1 (List.mem_map_of_mem hb) a.1 (List.mem_map_of_mem ha)
          rw [e]; unfold next; split <;> unfold field <;> omega
  · intro i hi hin
    rw [hg, if_neg hin, if_neg]
    rcases hi with rfl | ⟨a, ha, rfl⟩
    · unfold field; omega
    · have := hn a (by simp [ha])
      unfold field; omega

/-! ### Mark -/
def markedW (t r : Nat) (x : WorldM) : WorldM := x.put (field t r 0) (x.get (field t r 0) + 1)
theorem mark_runs {r : Nat} (h : Dim t C x) (hr : 1 ≤ r) (hC : r ≤ C) (hm : marked (x.get (field t r 0)) = false) : Runs me (markP t r) x true (markedW t r x) 2 := by
  have hne : next t r = field t r 0 := by unfold next; rw [if_neg (by omega)]
  unfold markP markedW
  refine Runs.seq (l := 1) (Runs.load (i := field t r 0) (by rw [hne]) (h.field hr hC (by decide))) ?_ (by omega)
  rw [hm]
  simp only [Bool.false_eq_true, if_false]
  exact Runs.cas (by rw [hne]) (h.field hr hC (by decide)) rfl
theorem markNot_runs {r : Nat} (h : Dim t C x) (hr : 1 ≤ r) (hC : r ≤ C) (hm : marked (x.get (field t r 0)) = true) : Runs me (markP t r) x false x 2 := by
  have hne : next t r = field t r 0 := by unfold next; rw [if_neg (by omega)]
  unfold markP
  refine Runs.seq (l := 1) (Runs.load (i := field t r 0) (by rw [hne]) (h.field hr hC (by decide))) ?_ (by omega)
  rw [hm]
  simp only [if_true]
  exact Runs.pure _
theorem markedW_dim {r : Nat} (h : Dim t C x) : Dim t C (markedW t r x) := h.put
theorem markedW_get {r i : Nat} (h : i ≠ field t r 0) : (markedW t r x).get i = x.get i := get_put_ne h
theorem Lst.mark {r : Nat} (h : Lst t C x (A ++ (r, false) :: B)) : Lst t C (markedW t r x) (A ++ (r, true) :: B) := by
  have hr := h.mem (r, false) (by simp)
  refine ⟨markedW_dim h.dim, ?_, ?_, ?_, ?_⟩
  · intro a ha
    rcases List.mem_append.1 ha with ha | ha
    · exact h.mem a (by simp [ha])
    · rcases List.mem_cons.1 ha with rfl | ha
      · exact hr
      · exact h.mem a (by simp [ha])
  · simpa using h.nodup
  · rw [markedW_get (by unfold field; omega), h.head]
    cases A <;> rfl
  · have hc := h.chn
    rw [Chn.append] at hc ⊢
    have hne := notin_out h.nodup
    refine ⟨?_, ?_, ?_⟩
    · show Chn t _ A r
      refine Chn.congr (h := r) hc.1 fun a ha => markedW_get ?_
      have := hne a (by simp [ha])
      unfold field; simp at this; omega
    · unfold markedW
      rw [get_put_same (h.dim.field hr.1 hr.2 (by decide))]
      have := hc.2.1
      rw [this]
      simp [Go.Proofs.YtdfeinfaljidgaaDoor.link]
    · refine hc.2.2.congr fun a ha => markedW_get ?_
      have := hne a (by simp [ha])
      unfold field; simp at this; omega

/-! ### Seek -/
/-- The first record whose key isn't below k. -/
def firstGe (key : Nat → Nat) (k : Nat) : List Node → Nat
  | [] => 0
  | a :: l => if k ≤ key a.1 then a.1 else firstGe key k l
theorem seek_along (key : Nat → Nat) : ∀ (B A : List Node) (fuel : Nat), Lst t C x (A ++ B) → B.length < fuel → (∀ a, a ∈ B → x.get (field t a.1 1) = key a.1) →
    Runs me (seekLoop t k fuel (hdD 0 B)) x (firstGe key k B, firstGe key k B != 0 && key (firstGe key k B) == k) x (2 * B.length) := by
  intro B
  induction B with
  | nil =>
    intro A fuel hL hf hk
    obtain ⟨fuel, rfl⟩ : ∃ m, fuel = m + 1 := ⟨fuel - 1, by simp at hf; omega⟩
    unfold seekLoop
    simp only [hdD, if_true, firstGe, bne_self_eq_false, Bool.false_and]
    exact Runs.pure _
  | cons c B ih =>
    intro A fuel hL hf hk
    obtain ⟨fuel, rfl⟩ : ∃ m, fuel = m + 1 := ⟨fuel - 1, by simp at hf; omega⟩
    have hc := hL.mem c (by simp)
    rw [show hdD 0 (c :: B) = c.1 from rfl]
    unfold seekLoop
    rw [if_neg (by omega)]
    refine Runs.seq (l := 1 + 2 * B.length) (Runs.load rfl (hL.dim.field hc.1 hc.2 (by decide))) ?_ (by simp; omega)
    rw [hk c (by simp)]
    unfold firstGe
    by_cases h : k ≤ key c.1
    · simp only [if_pos h]
      rw [show (c.1 != 0) = true from by rw [bne_iff_ne]; omega, Bool.true_and]
      exact Runs.pure _
    · simp only [if_neg h]
      refine Runs.seq (l := 2 * B.length) (Runs.load rfl (hL.dim.field hc.1 hc.2 (by decide))) ?_ (by omega)
      have hhd : hdD 0 B ≤ C := Lst.hd_le (A := A ++ [c]) (by simpa using hL)
      have hC := hL.dim.C
      rw [hL.at, ref_link (by omega)]
      exact ih (A ++ [c]) fuel (by simpa using hL) (by simp at hf; omega) fun a ha => hk a (by simp [ha])
theorem seek_runs (key : Nat → Nat) (hL : Lst t C x L) (hn : L.length < n) (hk : ∀ a, a ∈ L → x.get (field t a.1 1) = key a.1) :
    Runs me (seekP n t 0 k) x (firstGe key k L, firstGe key k L != 0 && key (firstGe key k L) == k) x (1 + 2 * L.length) := by
  unfold seekP
  refine Runs.seq (l := 2 * L.length) (Runs.load (i := 0) rfl (hL.dim.cell (by omega))) ?_ (by omega)
  have hC := hL.dim.C
  have hhd : ref (x.get 0) = hdD 0 L := by
    rw [hL.head, ref_link]
    have := Lst.hd_le (A := []) hL; omega
  rw [hhd]
  exact seek_along key L [] n hL hn hk

/-! ### Sweep -/
def setW (t r bit : Nat) (x : WorldM) : WorldM := x.put (field t r 2) (withBit (x.get (field t r 2)) bit)
theorem set_runs {r bit : Nat} (h : Dim t C x) (hr : 1 ≤ r) (hC : r ≤ C) (hn : 1 ≤ n) : Runs me (setP n t r bit) x () (setW t r bit x) 2 := by
  unfold setP setW withBit
  by_cases hb : hasBit (x.get (field t r 2)) bit = true
  · rw [if_pos hb, put_get (h.field hr hC (by decide))]
    exact (setOver_runs h hr hC hn hb).more (by omega)
  · rw [if_neg hb]
    exact setLoop_runs h hr hC hn (by simpa using hb)
theorem setW_dim {r bit : Nat} (h : Dim t C x) : Dim t C (setW t r bit x) := h.put
theorem setW_get {r bit i : Nat} (h : i ≠ field t r 2) : (setW t r bit x).get i = x.get i := get_put_ne h
theorem Lst.set {r bit : Nat} (h : Lst t C x L) : Lst t C (setW t r bit x) L :=
  h.keep (setW_dim h.dim) (setW_get (by unfold field; omega)) fun a ha => setW_get (by have := h.mem a ha; unfold field; omega)

def MarkKeeps (t C : Nat) (dead : Nat → Bool) (I : WorldM → List Node → Prop) : Prop :=
  ∀ x A r B, Lst t C x (A ++ (r, false) :: B) → Bare A → dead r = true → I x (A ++ (r, false) :: B) → I (setW t r 2 (markedW t r x)) (A ++ (r, true) :: B)
/-- What a sweep leaves. -/
def sweptL (dead : Nat → Bool) (L : List Node) : List Node := L.filter fun a => !a.2 && !dead a.1

structure Ends (t : Nat) (x : WorldM) (st : Nat) (dead : Nat → Bool) (B : List Node) : Prop where
  dead : ∀ a, a ∈ B → dead a.1 = (x.get (field t a.1 1) % 2147483648 != 0 && (x.get (field t a.1 4) == st || x.get (field t a.1 5) == st))

theorem sweep_along {st : Nat} (dead : Nat → Bool) (I : WorldM → List Node → Prop) (hI : OutKeeps me t C I) (hJ : MarkKeeps t C dead I) : ∀ (B A : List Node) (x : WorldM) (fuel : Nat), Lst t C x (A ++ B) → Bare A → 2 * B.length < fuel → 1 ≤ n →
    Ends t x st dead B → I x (A ++ B) → room me x.disk + 47 * B.length ≤ 1000000000 →
    ∃ z p c, Runs me (alongP n t (sweepStop n t st) fuel () (lastD 0 A) (hdD 0 B)) x (true, (), p, c) z (22 * B.length) ∧
      Lst t C z (A ++ sweptL dead B) ∧ Bare (A ++ sweptL dead B) ∧ I z (A ++ sweptL dead B) ∧ room me z.disk ≤ room me x.disk + 47 * B.length := by
  intro B
  induction B with
  | nil =>
    intro A x fuel hL hA hf hn hk hIx hr
    obtain ⟨fuel, rfl⟩ : ∃ m, fuel = m + 1 := ⟨fuel - 1, by simp at hf; omega⟩
    refine ⟨x, lastD 0 A, 0, ?_, by simpa [sweptL] using hL, by simpa [sweptL] using hA, by simpa [sweptL] using hIx, by omega⟩
    unfold alongP
    simp only [hdD, if_true]
    exact Runs.pure _
  | cons c B ih =>
    intro A x fuel hL hA hf hn hk hIx hr
    obtain ⟨fuel, rfl⟩ : ∃ m, fuel = m + 2 := ⟨fuel - 2, by simp at hf; omega⟩
    have hC := hL.dim.C
    simp only [List.length_cons] at hf hr
    -- whatever is marked goes out, at any fuel
    have hout : ∀ (x : WorldM) (fuel : Nat) (c : Node), c.2 = true → Lst t C x (A ++ c :: B) → 2 * B.length < fuel → Ends t x st dead B → I x (A ++ c :: B) → room me x.disk + 47 * (B.length + 1) ≤ 1000000000 →
        ∃ z p c', Runs me (alongP n t (sweepStop n t st) (fuel + 1) () (lastD 0 A) c.1) x (true, (), p, c') z (15 + 22 * B.length) ∧
          Lst t C z (A ++ sweptL dead B) ∧ Bare (A ++ sweptL dead B) ∧ I z (A ++ sweptL dead B) ∧ room me z.disk ≤ room me x.disk + 47 * (B.length + 1) := by
      intro x fuel c hm hL hf hk hIx hr
      have hc := hL.mem c (by simp)
      have hhd : hdD 0 B ≤ C := Lst.hd_le (A := A ++ [c]) (by simpa using hL)
      have hnx : ref (x.get (field t c.1 0)) = hdD 0 B := by rw [hL.at, ref_link (by omega)]
      have hroom := outW_room (me := me) (t := t) (p := lastD 0 A) (c := c.1) (nx := x.get (field t c.1 0)) (x := x)
      have hkey := fun (a : Node) (ha : a ∈ B) (f : Nat) hf => outW_key (me := me) (nx := x.get (field t c.1 0)) (f := f) hL.dim hL.last_le hc.1 hc.2 (hL.mem a (by simp [ha])).1 hf
      obtain ⟨z, p, c', h1, h2, h3, h4, h6⟩ := ih A (outW me t (lastD 0 A) c.1 (x.get (field t c.1 0)) x) fuel (hL.out hA) hA hf hn
        ⟨fun a ha => by rw [hkey a ha 1 (by omega), hkey a ha 4 (by omega), hkey a ha 5 (by omega)]; exact hk.dead a ha⟩ (hI x A c B hL hA hm hIx) (by omega)
      refine ⟨z, p, c', ?_, h2, h3, h4, by omega⟩
      unfold alongP
      rw [if_neg (by omega)]
      refine Runs.seq (l := 14 + 22 * B.length) (Runs.load rfl (hL.dim.field hc.1 hc.2 (by decide))) ?_ (by omega)
      have hmx : marked (x.get (field t c.1 0)) = true := by rw [hL.at, marked_link, hm]
      rw [if_pos hmx]
      refine Runs.seq (l := 22 * B.length) (out_runs hL.dim hL.last_le hc.1 hc.2 hn (by omega) (hL.lead hA)) ?_ (by omega)
      simp only [Bool.true_eq_false, if_false]
      rw [hnx]
      exact h1
    have hc := hL.mem c (by simp)
    have hkB : Ends t x st dead B := ⟨fun a ha => hk.dead a (by simp [ha])⟩
    rw [show hdD 0 (c :: B) = c.1 from rfl]
    by_cases hm : c.2 = true
    · have hsw : sweptL dead (c :: B) = sweptL dead B := by simp [sweptL, hm]
      obtain ⟨z, p, c', h1, h2⟩ := hout x (fuel + 1) c hm hL (by omega) hkB hIx hr
      rw [hsw]
      exact ⟨z, p, c', h1.more (by simp; omega), h2⟩
    have hm' : c.2 = false := by simpa using hm
    have hmx : marked (x.get (field t c.1 0)) = false := by rw [hL.at, marked_link, hm']
    have hhd : hdD 0 B ≤ C := Lst.hd_le (A := A ++ [c]) (by simpa using hL)
    have hnx : ref (x.get (field t c.1 0)) = hdD 0 B := by rw [hL.at, ref_link (by omega)]
    have hd := hk.dead c (by simp)
    have hgo : ∀ {o : Bool × Unit × Nat × Nat} {z : WorldM} {m : Nat}, Runs me (do
          let a ← sweepStop n t st () c.1 (x.get (field t c.1 0))
          if a.2.1 then pure (true, a.1, lastD 0 A, c.1) else
            if a.2.2 then alongP n t (sweepStop n t st) (fuel + 1) a.1 (lastD 0 A) c.1 else alongP n t (sweepStop n t st) (fuel + 1) a.1 c.1 (ref (x.get (field t c.1 0)))) x o z m → Runs me (alongP n t (sweepStop n t st) (fuel + 2) () (lastD 0 A) c.1) x o z (1 + m) := by
        intro o z m h
        unfold alongP
        rw [if_neg (by omega)]
        refine Runs.seq (l := m) (Runs.load rfl (hL.dim.field hc.1 hc.2 (by decide))) ?_ (by omega)
        show Runs me (if marked (x.get (field t c.1 0)) = true then _ else _) _ _ _ _
        rw [if_neg (by rw [hmx]; decide)]
        exact h
    by_cases hdd : dead c.1 = true
    · have hsw : sweptL dead (c :: B) = sweptL dead B := by simp [sweptL, hdd]
      rw [hsw]
      rw [hdd] at hd
      have hd' : x.get (field t c.1 1) % 2147483648 ≠ 0 ∧ (x.get (field t c.1 4) = st ∨ x.get (field t c.1 5) = st) := by simpa using hd.symm
      obtain ⟨c1, c2⟩ := c
      simp only at hm'
      subst hm'
      have hL2 : Lst t C (setW t c1 2 (markedW t c1 x)) (A ++ (c1, true) :: B) := (Lst.mark hL).set
      have hg : ∀ a f, a ∈ B → f = 1 ∨ f = 4 ∨ f = 5 → (setW t c1 2 (markedW t c1 x)).get (field t a.1 f) = x.get (field t a.1 f) := fun a f ha hf => by
        have := hL.mem a (by simp [ha])
        rw [setW_get (by unfold field; omega), markedW_get (by unfold field; omega)]
      obtain ⟨z, p, c', h1, h2⟩ := hout (setW t c1 2 (markedW t c1 x)) fuel (c1, true) rfl hL2 (by omega) ⟨fun a ha => by rw [hg a 1 ha (by omega), hg a 4 ha (by omega), hg a 5 ha (by omega)]; exact hkB.dead a ha⟩ (hJ x A c1 B hL hA hdd hIx) hr
      refine ⟨z, p, c', ?_, h2⟩
      refine (hgo (m := 6 + (15 + 22 * B.length)) (Runs.seq (k := 6) (l := 15 + 22 * B.length) (a := ((), false, true)) (y := setW t c1 2 (markedW t c1 x)) ?_ ?_ (by omega))).more (by simp; omega)
      · unfold sweepStop
        refine Runs.seq (l := 5) (Runs.load rfl (hL.dim.field hc.1 hc.2 (by decide))) ?_ (by omega)
        rw [if_neg hd'.1]
        refine Runs.seq (l := 4) (Runs.load rfl (hL.dim.field hc.1 hc.2 (by decide))) ?_ (by omega)
        refine Runs.seq (l := 3) (Runs.load rfl (hL.dim.field hc.1 hc.2 (by decide))) ?_ (by omega)
        rw [if_neg (by rintro ⟨h1, h2⟩; rcases hd'.2 with h | h; exact h1 h; exact h2 h)]
        have hne : next t c1 = field t c1 0 := by unfold next; rw [if_neg (by omega)]
        refine Runs.seq (l := 2) (Runs.cas (i := field t c1 0) (by rw [hne]) (hL.dim.field hc.1 hc.2 (by decide)) rfl) ?_ (by omega)
        simp only [if_true]
        refine Runs.seq (l := 0) (set_runs (C := C) (markedW_dim hL.dim) hc.1 hc.2 hn) (Runs.pure _) (by omega)
      · simp only [Bool.false_eq_true, if_false, if_true]
        exact h1
    · have hdd' : dead c.1 = false := by simpa using hdd
      have hsw : sweptL dead (c :: B) = c :: sweptL dead B := by simp [sweptL, hdd', hm']
      rw [hsw]
      obtain ⟨z, p, c', h1, h2, h3, h4, h6⟩ := ih (A ++ [c]) x (fuel + 1) (by simpa using hL) (hA.snoc hm') (by omega) hn hkB (by simpa using hIx) (by omega)
      refine ⟨z, p, c', ?_, by simpa using h2, by simpa using h3, by simpa using h4, by simp; omega⟩
      rw [hdd'] at hd
      refine (hgo (m := 3 + 22 * B.length) (Runs.seq (k := 3) (l := 22 * B.length) (a := ((), false, false)) (y := x) ?_ ?_ (by omega))).more (by simp; omega)
      · unfold sweepStop
        refine Runs.seq (l := 2) (Runs.load rfl (hL.dim.field hc.1 hc.2 (by decide))) ?_ (by omega)
        by_cases h0 : x.get (field t c.1 1) % 2147483648 = 0
        · rw [if_pos h0]; exact Runs.pure _
        · rw [if_neg h0]
          refine Runs.seq (l := 1) (Runs.load rfl (hL.dim.field hc.1 hc.2 (by decide))) ?_ (by omega)
          refine Runs.seq (l := 0) (Runs.load rfl (hL.dim.field hc.1 hc.2 (by decide))) ?_ (by omega)
          have : x.get (field t c.1 4) ≠ st ∧ x.get (field t c.1 5) ≠ st := by simpa [h0] using hd.symm
          rw [if_pos this]
          exact Runs.pure _
      · simp only [Bool.false_eq_true, if_false]
        rw [hnx]
        rw [lastD_snoc] at h1
        exact h1
theorem sweep_runs {st : Nat} (dead : Nat → Bool) (I : WorldM → List Node → Prop) (hI : OutKeeps me t C I) (hJ : MarkKeeps t C dead I) (hL : Lst t C x L) (hn : 2 * L.length < n) (hk : Ends t x st dead L) (hIx : I x L) (hr : room me x.disk + 47 * L.length ≤ 1000000000) :
    ∃ z, Runs me (sweepP n t st) x true z (1 + 22 * L.length) ∧ Lst t C z (sweptL dead L) ∧ Bare (sweptL dead L) ∧ I z (sweptL dead L) ∧ room me z.disk ≤ room me x.disk + 47 * L.length := by
  obtain ⟨z, p, c, h1, h2, h3, h4, h6⟩ := sweep_along (n := n) dead I hI hJ L [] x n hL (by intro a ha; simp at ha) hn (by omega) hk hIx hr
  refine ⟨z, ?_, h2, h3, h4, h6⟩
  unfold sweepP walkP
  have hC := hL.dim.C
  have hhd : ref (x.get 0) = hdD 0 L := by
    rw [hL.head, ref_link]
    have := Lst.hd_le (A := []) hL; omega
  refine Runs.seq (a := (true, (), p, c)) (y := z) (k := 1 + 22 * L.length) (l := 0) (Runs.seq (l := 22 * L.length) (Runs.load (i := 0) rfl (hL.dim.cell (by omega))) ?_ (Nat.le_refl _)) (Runs.pure _) (by omega)
  rw [hhd]; exact h1
end
section
variable {t C : Nat} {x : WorldM} {L : List Node}
theorem Lst.length_le (h : Lst t C x L) : L.length ≤ C := by
  have h1 : ∀ (n : Nat) (l : List Nat), l.Nodup → (∀ a, a ∈ l → 1 ≤ a ∧ a ≤ n) → l.length ≤ n := by
    intro n
    induction n with
    | zero =>
      intro l _ hl
      cases l with
      | nil => simp
      | cons a l => have := hl a (by simp); omega
    | succ n ih =>
      intro l hn hl
      have h2 := ih (l.erase (n + 1)) (hn.erase _) fun a ha => by
        have h3 := hl a (List.mem_of_mem_erase ha)
        have h4 : a ≠ n + 1 := fun e => by subst e; exact (List.Nodup.not_mem_erase hn) ha
        omega
      have := List.length_erase_of_mem (a := n + 1) (l := l)
      by_cases hm : n + 1 ∈ l
      · have := this hm; omega
      · rw [List.erase_of_not_mem hm] at h2; omega
  have := h1 C (L.map (·.1)) h.nodup fun a ha => by obtain ⟨b, hb, rfl⟩ := List.mem_map.1 ha; exact h.mem b hb
  simpa using this
end
end Go.Proofs.YtdfeinfaljidgaaDoor
