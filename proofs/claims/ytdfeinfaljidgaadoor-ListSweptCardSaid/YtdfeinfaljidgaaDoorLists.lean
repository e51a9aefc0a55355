/- A list in memory, and what a search makes of it. Plain Lean. -/
import Derived.Test.YtdfeinfaljidgaaDoorTurns
namespace Go.Proofs.YtdfeinfaljidgaaDoor
open Go Go.RowKit

theorem nil_or_snoc {α : Type} (A : List α) : A = [] ∨ ∃ L b, A = L ++ [b] := by
  rcases List.eq_nil_or_concat A with h | ⟨L, b, h⟩
  · exact .inl h
  · exact .inr ⟨L, b, by rw [h, List.concat_eq_append]⟩

/-- A record of the list, marked or not. -/
abbrev Node := Nat × Bool
def hdD (h : Nat) : List Node → Nat
  | [] => h
  | a :: _ => a.1
def lastD : Nat → List Node → Nat
  | d, [] => d
  | _, a :: l => lastD a.1 l
/-- The next words of a row of records, the last one's to h. -/
def Chn (t : Nat) (g : Nat → Nat) : List Node → Nat → Prop
  | [], _ => True
  | a :: l, h => g (field t a.1 0) = link (hdD h l) a.2 ∧ Chn t g l h

theorem lastD_append (d : Nat) (A B : List Node) : lastD d (A ++ B) = lastD (lastD d A) B := by
  induction A generalizing d with
  | nil => rfl
  | cons a A ih => exact ih a.1
theorem lastD_snoc (d : Nat) (A : List Node) (a : Node) : lastD d (A ++ [a]) = a.1 := by rw [lastD_append]; rfl
theorem hdD_append (h : Nat) (A B : List Node) : hdD h (A ++ B) = hdD (hdD h B) A := by cases A <;> rfl
theorem lastD_mem {d : Nat} {A : List Node} (h : A ≠ []) : ∃ a, a ∈ A ∧ lastD d A = a.1 := by
  induction A generalizing d with
  | nil => exact absurd rfl h
  | cons a A ih =>
    cases A with
    | nil => exact ⟨a, by simp, rfl⟩
    | cons b A => obtain ⟨c, h1, h2⟩ := ih (d := a.1) (by simp); exact ⟨c, List.mem_cons_of_mem _ h1, h2⟩
theorem Chn.append {t : Nat} {g : Nat → Nat} {A B : List Node} {h : Nat} : Chn t g (A ++ B) h ↔ Chn t g A (hdD h B) ∧ Chn t g B h := by
  induction A with
  | nil => simp [Chn]
  | cons a A ih => simp only [List.cons_append, Chn, ih, hdD_append, and_assoc]
theorem Chn.congr {t : Nat} {g g' : Nat → Nat} {A : List Node} {h : Nat} (hc : Chn t g A h) (hg : ∀ a, a ∈ A → g' (field t a.1 0) = g (field t a.1 0)) : Chn t g' A h := by
  induction A with
  | nil => trivial
  | cons a A ih => exact ⟨(hg a (by simp)).trans hc.1, ih hc.2 fun b hb => hg b (List.mem_cons_of_mem _ hb)⟩

/-- Memory has the list L. -/
structure Lst (t C : Nat) (x : WorldM) (L : List Node) : Prop where
  dim : Dim t C x
  mem : ∀ a, a ∈ L → 1 ≤ a.1 ∧ a.1 ≤ C
  nodup : (L.map (·.1)).Nodup
  head : x.get 0 = link (hdD 0 L) false
  chn : Chn t x.get L 0
def Bare (A : List Node) : Prop := ∀ a, a ∈ A → a.2 = false

theorem ref_link {r : Nat} {m : Bool} (h : r < 1048576) : ref (link r m) = r := by 
  unfold ref link
  cases m
  · simp only [Bool.false_eq_true, if_false]; omega
  · simp only [if_true]; omega
theorem marked_link {r : Nat} {m : Bool} : marked (link r m) = m := by unfold marked link; cases m <;> simp <;> omega
theorem Bare.snoc {A : List Node} {a : Node} (h : Bare A) (ha : a.2 = false) : Bare (A ++ [a]) := fun b hb => by
  rcases List.mem_append.1 hb with hb | hb
  · exact h b hb
  · rw [List.mem_singleton.1 hb]; exact ha

section
variable {t C : Nat} {x z : WorldM} {L A B : List Node} {c : Node}

theorem Lst.lt (h : Lst t C x L) {a : Node} (ha : a ∈ L) : a.1 < 1048576 := by have := (h.mem a ha).2; have := h.dim.C; omega
theorem Lst.hd_le (h : Lst t C x (A ++ B)) : hdD 0 B ≤ C := by
  cases B with
  | nil => exact Nat.zero_le _
  | cons b B => exact (h.mem b (by simp)).2
theorem Lst.last_le (h : Lst t C x (A ++ B)) : lastD 0 A ≤ C := by
  by_cases hA : A = []
  · subst hA; exact Nat.zero_le _
  · obtain ⟨a, ha, e⟩ := lastD_mem (d := 0) hA
    rw [e]; exact (h.mem a (by simp [ha])).2
theorem Lst.last_ne (h : Lst t C x (A ++ c :: B)) : lastD 0 A ≠ c.1 := by
  have hc := (h.mem c (by simp)).1
  by_cases hA : A = []
  · subst hA; show 0 ≠ _; omega
  · obtain ⟨a, ha, e⟩ := lastD_mem (d := 0) hA
    rw [e]
    have := h.nodup
    rw [List.map_append, List.nodup_append] at this
    exact this.2.2 a.1 (List.mem_map_of_mem ha) c.1 (by simp)
/-- The word that leads behind A. -/
theorem Lst.lead (h : Lst t C x (A ++ B)) (hA : Bare A) : x.get (next t (lastD 0 A)) = link (hdD 0 B) false := by
  rcases nil_or_snoc A with rfl | ⟨A, a, rfl⟩
  · exact h.head
  · rw [lastD_snoc]
    have ha := h.mem a (by simp)
    have hc := h.chn
    rw [Chn.append, Chn.append] at hc
    have := hc.1.2.1
    unfold next
    rw [if_neg (by omega), this, hA a (by simp)]
    rfl
theorem Lst.at (h : Lst t C x (A ++ c :: B)) : x.get (field t c.1 0) = link (hdD 0 B) c.2 := by
  have hc := h.chn
  rw [Chn.append] at hc
  exact hc.2.1
/-- Another world with the same words of the list. -/
theorem Lst.keep (h : Lst t C x L) (hd : Dim t C z) (h0 : z.get 0 = x.get 0) (hn : ∀ a, a ∈ L → z.get (field t a.1 0) = x.get (field t a.1 0)) : Lst t C z L :=
  ⟨hd, h.mem, h.nodup, h0.trans h.head, h.chn.congr hn⟩

/-- The list that leads elsewhere behind A. -/
theorem Lst.relink {B' : List Node} (h : Lst t C x (A ++ B)) (hd : Dim t C z) (hm : ∀ a, a ∈ B' → 1 ≤ a.1 ∧ a.1 ≤ C) (hnd : ((A ++ B').map (·.1)).Nodup)
    (hlead : z.get (next t (lastD 0 A)) = link (hdD 0 B') false) (hA : Bare A) (hB : Chn t z.get B' 0)
    (hn : ∀ i, i = 0 ∨ (∃ a, a ∈ A ∧ i = field t a.1 0) → i ≠ next t (lastD 0 A) → z.get i = x.get i) : Lst t C z (A ++ B') := by
  refine ⟨hd, fun a ha => (List.mem_append.1 ha).elim (fun h' => h.mem a (by simp [h'])) (hm a), hnd, ?_, ?_⟩
  · cases A with
    | nil => exact hlead
    | cons a A =>
      rw [hn 0 (.inl rfl)]
      · exact h.head
      · obtain ⟨b, hb, e⟩ := lastD_mem (d := 0) (A := a :: A) (by simp)
        have := h.mem b (List.mem_append_left _ hb)
        rw [e]; unfold next field; rw [if_neg (by omega)]; omega
  · rw [Chn.append]
    refine ⟨?_, hB⟩
    rcases nil_or_snoc A with rfl | ⟨A, a, rfl⟩
    · trivial
    · have ha := h.mem a (by simp)
      have hc := h.chn
      rw [Chn.append, Chn.append] at hc
      rw [lastD_snoc] at hlead hn
      have hne : next t a.1 = field t a.1 0 := by unfold next; rw [if_neg (by omega)]
      rw [hne] at hlead hn
      rw [Chn.append]
      refine ⟨hc.1.1.congr fun b hb => hn _ (.inr ⟨b, by simp [hb], rfl⟩) ?_, ?_, trivial⟩
      · have hnd' := h.nodup
        rw [List.map_append, List.nodup_append, List.map_append, List.nodup_append] at hnd'
        have := hnd'.1.2.2 b.1 (List.mem_map_of_mem hb) a.1 (by simp)
        unfold field; omega
      · rw [hlead, hA a (by simp)]; rfl

theorem nodup_out (h : ((A ++ c :: B).map (·.1)).Nodup) : ((A ++ B).map (·.1)).Nodup := by
  rw [List.map_append, List.map_cons] at h
  rw [List.map_append]
  exact h.sublist ((List.Sublist.refl _).append (List.sublist_cons_self _ _))
theorem notin_out (h : ((A ++ c :: B).map (·.1)).Nodup) : ∀ a, a ∈ A ++ B → a.1 ≠ c.1 := by
  intro a ha e
  have h2 : (c.1 :: (A ++ B).map (·.1)).Nodup := by
    refine (List.Perm.nodup_iff ?_).1 h
    rw [List.map_append, List.map_cons, List.map_append]
    exact List.perm_middle
  rw [List.nodup_cons] at h2
  exact h2.1 (by rw [← e]; exact List.mem_map_of_mem ha)

/-- A marked record is taken out. -/
theorem Lst.out {me : Nat} (h : Lst t C x (A ++ c :: B)) (hA : Bare A) : Lst t C (outW me t (lastD 0 A) c.1 (x.get (field t c.1 0)) x) (A ++ B) := by
  have hc := h.mem c (by simp)
  have hp := h.last_le
  have hget := outW_get (me := me) (nx := x.get (field t c.1 0)) h.dim hp hc.1 hc.2
  have hne := notin_out h.nodup
  have hl := limbo_lt (x.get 3)
  have hrest : ∀ i, i = 0 ∨ (∃ a, a ∈ A ++ B ∧ i = field t a.1 0) → i ≠ next t (lastD 0 A) → (outW me t (lastD 0 A) c.1 (x.get (field t c.1 0)) x).get i = x.get i := by
    intro i hi hin
    rw [hget, if_neg, if_neg, if_neg hin, if_neg]
    all_goals rcases hi with rfl | ⟨a, ha, rfl⟩
    all_goals (try have := hne a ha)
    all_goals (try have := h.mem a (by rcases List.mem_append.1 ha with ha | ha <;> simp [ha]))
    all_goals (try unfold field)
    all_goals omega
  refine Lst.relink h (outW_dim h.dim) (fun a ha => h.mem a (by simp [ha])) (nodup_out h.nodup) ?_ hA ?_ fun i hi hin => hrest i (hi.imp id fun ⟨a, ha, e⟩ => ⟨a, by simp [ha], e⟩) hin
  · rw [hget, if_neg, if_neg, if_pos rfl, h.at, ref_link]
    · exact Nat.lt_of_le_of_lt (Lst.hd_le (A := A ++ [c]) (by simpa using h)) (by have := h.dim.C; omega)
    · exact next_field (by decide) (by decide) hc.1
    · exact next_cell (by omega) (by omega)
  · have hcB := h.chn
    rw [Chn.append] at hcB
    refine hcB.2.2.congr fun a ha => hrest _ (.inr ⟨a, by simp [ha], rfl⟩) ?_
    have hnd := h.nodup
    rw [List.map_append, List.nodup_append] at hnd
    have ha1 := h.mem a (by simp [ha])
    by_cases hAe : A = []
    · subst hAe; show _ ≠ next t 0; unfold next field; rw [if_pos rfl]; omega
    · obtain ⟨b, hb, e⟩ := lastD_mem (d := 0) hAe
      have := hnd.2.2 b.1 (List.mem_map_of_mem hb) a.1 (by rw [List.map_cons]; exact List.mem_cons_of_mem _ (List.mem_map_of_mem ha))
      rw [e]; unfold next; split <;> unfold field <;> omega
end

/-! ### Search -/
/-- What a search for k leaves of the row: what stays ahead of the place, and what lies from it on. -/
def cutL (key : Nat → Nat) (k : Nat) : List Node → List Node × List Node
  | [] => ([], [])
  | a :: l => if a.2 then cutL key k l else if k ≤ key a.1 then ([], a :: l) else (a :: (cutL key k l).1, (cutL key k l).2)
/-- How many are marked. -/
def marks (l : List Node) : Nat := (l.filter (·.2)).length

/-- Whatever holds of worlds and lists, and goes on when a marked record is taken out. -/
def OutKeeps (me t C : Nat) (I : WorldM → List Node → Prop) : Prop :=
  ∀ x A c B, Lst t C x (A ++ c :: B) → Bare A → c.2 = true → I x (A ++ c :: B) → I (outW me t (lastD 0 A) c.1 (x.get (field t c.1 0)) x) (A ++ B)

section
variable {me t C n k : Nat}
theorem outW_key {x : WorldM} {p c nx r f : Nat} (h : Dim t C x) (hp : p ≤ C) (hc : 1 ≤ c) (hC : c ≤ C) (hr : 1 ≤ r) (hf : f = 1 ∨ f = 3 ∨ f = 4 ∨ f = 5 ∨ f = 6) : (outW me t p c nx x).get (field t r f) = x.get (field t r f) := by
  have hl := limbo_lt (x.get 3)
  rw [outW_get h hp hc hC, if_neg, if_neg, if_neg, if_neg]
  · unfold field; omega
  · exact Ne.symm (next_field (by omega) (by omega) hr)
  · unfold field; omega
  · unfold field; omega
theorem search_along (I : WorldM → List Node → Prop) (hI : OutKeeps me t C I) (key : Nat → Nat) : ∀ (B A : List Node) (x : WorldM) (fuel : Nat) (b : Bool), Lst t C x (A ++ B) → Bare A → B.length < fuel → 1 ≤ n →
    (∀ a, a ∈ B → x.get (field t a.1 1) = key a.1) → I x (A ++ B) → room me x.disk + 47 * marks B ≤ 1000000000 →
    ∃ z b', Runs me (alongP n t (searchStop t k) fuel b (lastD 0 A) (hdD 0 B)) x (true, b', lastD 0 (A ++ (cutL key k B).1), hdD 0 (cutL key k B).2) z (2 * B.length + 13 * marks B) ∧
      Lst t C z (A ++ (cutL key k B).1 ++ (cutL key k B).2) ∧ Bare (A ++ (cutL key k B).1) ∧ I z (A ++ (cutL key k B).1 ++ (cutL key k B).2) ∧
      (hdD 0 (cutL key k B).2 ≠ 0 → b' = (key (hdD 0 (cutL key k B).2) == k)) ∧ room me z.disk ≤ room me x.disk + 47 * marks B := by
  intro B
  induction B with
  | nil =>
    intro A x fuel b hL hA hf hn hk hIx hr
    obtain ⟨fuel, rfl⟩ : ∃ m, fuel = m + 1 := ⟨fuel - 1, by simp at hf; omega⟩
    refine ⟨x, b, ?_, by simpa [cutL] using hL, by simpa [cutL] using hA, by simpa [cutL] using hIx, fun h => absurd rfl h, by omega⟩
    unfold alongP
    simp only [hdD, if_true, cutL, List.append_nil]
    exact Runs.pure _
  | cons c B ih =>
    intro A x fuel b hL hA hf hn hk hIx hr
    obtain ⟨fuel, rfl⟩ : ∃ m, fuel = m + 1 := ⟨fuel - 1, by simp at hf; omega⟩
    have hc := hL.mem c (by simp)
    have hat := hL.at
    have hhd : hdD 0 B ≤ C := Lst.hd_le (A := A ++ [c]) (by simpa using hL)
    have hC := hL.dim.C
    have hnx : ref (x.get (field t c.1 0)) = hdD 0 B := by rw [hat, ref_link (by omega)]
    simp only [List.length_cons] at hf
    have hc0 : ¬ c.1 = 0 := by omega
    rw [show hdD 0 (c :: B) = c.1 from rfl]
    by_cases hm : c.2 = true
    · -- it is marked: out
      have hmk : marks (c :: B) = marks B + 1 := by simp [marks, hm]
      have hcut : cutL key k (c :: B) = cutL key k B := by simp [cutL, hm]
      rw [hcut, hmk]
      rw [hmk] at hr
      have hroom := outW_room (me := me) (t := t) (p := lastD 0 A) (c := c.1) (nx := x.get (field t c.1 0)) (x := x)
      obtain ⟨z, b', h1, h2, h3, h4, h5, h6⟩ := ih A (outW me t (lastD 0 A) c.1 (x.get (field t c.1 0)) x) fuel b (hL.out hA) hA (by omega) hn
        (fun a ha => by rw [outW_key hL.dim hL.last_le hc.1 hc.2 (hL.mem a (by simp [ha])).1 (.inl rfl)]; exact hk a (by simp [ha])) (hI x A c B hL hA hm hIx) (by omega)
      refine ⟨z, b', ?_, h2, h3, h4, h5, by omega⟩
      unfold alongP
      rw [if_neg hc0]
      refine Runs.seq (l := 14 + (2 * B.length + 13 * marks B)) (Runs.load rfl (hL.dim.field hc.1 hc.2 (by decide))) ?_ (by simp; omega)
      show Runs me (if marked (x.get (field t c.1 0)) = true then _ else _) _ _ _ _
      have hmx : marked (x.get (field t c.1 0)) = true := by rw [hat, marked_link, hm]
      rw [if_pos hmx]
      refine Runs.seq (l := 2 * B.length + 13 * marks B) (out_runs hL.dim hL.last_le hc.1 hc.2 hn (by omega) (hL.lead hA)) ?_ (by omega)
      simp only [Bool.true_eq_false, if_false]
      rw [hnx]
      exact h1
    · have hm' : c.2 = false := by simpa using hm
      have hmk : marks (c :: B) = marks B := by simp [marks, hm']
      rw [hmk]
      rw [hmk] at hr
      have hgo : ∀ {o : Bool × Bool × Nat × Nat} {z : WorldM} {m : Nat}, Runs me (do
          let a ← searchStop t k b c.1 (x.get (field t c.1 0))
          if a.2.1 then pure (true, a.1, lastD 0 A, c.1) else
            if a.2.2 then alongP n t (searchStop t k) fuel a.1 (lastD 0 A) c.1 else alongP n t (searchStop t k) fuel a.1 c.1 (ref (x.get (field t c.1 0)))) x o z m → Runs me (alongP n t (searchStop t k) (fuel + 1) b (lastD 0 A) c.1) x o z (1 + m) := by
        intro o z m h
        unfold alongP
        rw [if_neg hc0]
        refine Runs.seq (l := m) (Runs.load rfl (hL.dim.field hc.1 hc.2 (by decide))) ?_ (by omega)
        have hmx : marked (x.get (field t c.1 0)) = false := by rw [hat, marked_link, hm']
        show Runs me (if marked (x.get (field t c.1 0)) = true then _ else _) _ _ _ _
        rw [if_neg (by rw [hmx]; decide)]
        exact h
      have hst : Runs me (searchStop t k b c.1 (x.get (field t c.1 0))) x (key c.1 == k, decide (k ≤ key c.1), false) x 1 := by
        unfold searchStop
        refine Runs.seq (l := 0) (Runs.load rfl (hL.dim.field hc.1 hc.2 (by decide))) ?_ (by omega)
        show Runs me (pure (x.get (field t c.1 1) == k, decide (k ≤ x.get (field t c.1 1)), false)) _ _ _ _
        rw [hk c (by simp)]
        exact Runs.pure _
      by_cases hkk : k ≤ key c.1
      · have hcut : cutL key k (c :: B) = ([], c :: B) := by simp [cutL, hm', hkk]
        rw [hcut]
        refine ⟨x, key c.1 == k, ?_, by simpa using hL, by simpa using hA, by simpa using hIx, fun _ => rfl, by omega⟩
        refine (hgo (m := 1) (Runs.seq (l := 0) hst ?_ (by omega))).more (by simp; omega)
        simp only [decide_eq_true hkk, if_true, List.append_nil]
        exact Runs.pure _
      · have hcut : cutL key k (c :: B) = (c :: (cutL key k B).1, (cutL key k B).2) := by simp [cutL, hm', hkk]
        obtain ⟨z, b', h1, h2, h3, h4, h5, h6⟩ := ih (A ++ [c]) x fuel (key c.1 == k) (by simpa using hL) (hA.snoc hm') (by omega) hn (fun a ha => hk a (by simp [ha])) (by simpa using hIx) (by omega)
        rw [hcut]
        refine ⟨z, b', ?_, by simpa using h2, by simpa using h3, by simpa using h4, h5, by omega⟩
        refine (hgo (m := 1 + (2 * B.length + 13 * marks B)) (Runs.seq (l := 2 * B.length + 13 * marks B) hst ?_ (by omega))).more (by simp; omega)
        simp only [decide_eq_false hkk, Bool.false_eq_true, if_false]
        rw [hnx]
        rw [lastD_snoc] at h1
        simpa using h1
theorem search_runs (I : WorldM → List Node → Prop) (hI : OutKeeps me t C I) (key : Nat → Nat) {L : List Node} {x : WorldM} (hL : Lst t C x L) (hn : L.length < n)
    (hk : ∀ a, a ∈ L → x.get (field t a.1 1) = key a.1) (hIx : I x L) (hr : room me x.disk + 47 * marks L ≤ 1000000000) :
    ∃ z, Runs me (searchP n t k) x (lastD 0 (cutL key k L).1, hdD 0 (cutL key k L).2, (key (hdD 0 (cutL key k L).2) == k) && hdD 0 (cutL key k L).2 != 0, true) z (1 + 2 * L.length + 13 * marks L) ∧
      Lst t C z ((cutL key k L).1 ++ (cutL key k L).2) ∧ Bare (cutL key k L).1 ∧ I z ((cutL key k L).1 ++ (cutL key k L).2) ∧ room me z.disk ≤ room me x.disk + 47 * marks L := by
  obtain ⟨z, b', h1, h2, h3, h4, h5, h6⟩ := search_along (n := n) I hI key L [] x n false hL (by intro a ha; simp at ha) hn (by omega) hk hIx hr
  refine ⟨z, ?_, h2, h3, h4, h6⟩
  unfold searchP walkP
  have hC := hL.dim.C
  have hhd : ref (x.get 0) = hdD 0 L := by
    rw [hL.head, ref_link]
    have := Lst.hd_le (A := []) hL; omega
  refine Runs.seq (a := (true, b', lastD 0 (cutL key k L).1, hdD 0 (cutL key k L).2)) (y := z) (k := 1 + (2 * L.length + 13 * marks L)) (l := 0) (Runs.seq (l := 2 * L.length + 13 * marks L) (Runs.load (i := 0) rfl (hL.dim.cell (by omega))) ?_ (Nat.le_refl _)) ?_ (by omega)
  · rw [hhd]; exact h1
  · simp only [Bool.true_eq_false, if_false]
    by_cases h0 : hdD 0 (cutL key k L).2 = 0
    · rw [h0]
      simp only [bne_self_eq_false, Bool.and_false]
      exact Runs.pure _
    · rw [h5 h0]
      exact Runs.pure _
end
end Go.Proofs.YtdfeinfaljidgaaDoor
