/- Programs that are run against a world, and replayed by what they were told; access.Do whole. -/
import Derived.Test.YtdfeinfaljidgaaDoorWorldDo
import Derived.Test.YtdfeinfaljidgaaDoorNext
import Derived.Test.YtdfeinfaljidgaaDoorRunW
namespace Go.Proofs.YtdfeinfaljidgaaDoor
open Go Go.RowKit

structure OkW (me : Nat) (x : WorldM) : Prop where
  word : x.mem.word.length ≤ 1000000000
  r0 : x.disk.row0.length ≤ 64
  r1 : x.disk.row1.length ≤ 64
  m0 : me < x.disk.row0.length
  m1 : me < x.disk.row1.length

theorem OkW.step {me : Nat} {x : WorldM} (h : OkW me x) (a : Acc) : OkW me (worldStep me x a).1 := by
  obtain ⟨h1, h2, h3, h4, h5⟩ := h
  unfold worldStep
  split
  · exact ⟨by simpa [wordsM_length] using h1, h2, h3, h4, h5⟩
  · unfold streamsM turnD setRowM rowM
    refine ⟨h1, ?_, ?_, ?_, ?_⟩ <;> (repeat' split) <;> simp_all

theorem Do_any {M : List Nat} {w : World} {v av : Value} {me : Nat} {x : WorldM} {a : Acc} (hok : OkW me x) (hfit : worldTold me x a ≠ .unfit) (hv : RWorld M w v x) (ha : RAcc [] w av a) (hM : ∀ k, k ∈ M → k < w.heap.size) :
    Calls Tryd.prog 26 #[v, .int .i64 me, av, .bool false] w fun e w' => ∃ v', e = .returned (.tuple #[v', .agg #[.int .u64 ((worldStep me x a).2.n : Nat), .slice none 0 0, .bool false]]) ∧ Same [] w w' ∧ RWorld M w' v' (worldStep me x a).1 ∧ (worldStep me x a).2.n < W64 ∧ (worldStep me x a).2.b = [] ∧ (worldStep me x a).2.fail = false := by
  have hf : a.kind ≤ 6 ∧ fitD x.disk me a := by
    by_cases h : a.kind ≤ 6 ∧ fitD x.disk me a
    · exact h
    · exact absurd (by unfold worldTold; rw [if_neg h]) hfit
  obtain ⟨hk6, hfd⟩ := hf
  by_cases hk : a.kind ≤ 4
  · have hw : worldStep me x a = ({ x with mem := (wordsM x.mem a).1 }, (wordsM x.mem a).2) := by unfold worldStep; rw [if_pos (by omega)]
    rw [hw]
    refine (Do_words hk hv ha hM hok.word).mono ?_
    rintro e w' ⟨v', h1, h2, h3, h4⟩
    exact ⟨v', h1, h2, h3, h4, wordsM_b _ _, wordsM_fail _ _⟩
  · have hr : x.disk.root % 2 = 0 ∨ x.disk.root % 2 = 1 := by omega
    obtain ⟨s0, hs0⟩ : ∃ s, x.disk.row0[me]? = some s := ⟨_, List.getElem?_eq_getElem hok.m0⟩
    obtain ⟨s1, hs1⟩ : ∃ s, x.disk.row1[me]? = some s := ⟨_, List.getElem?_eq_getElem hok.m1⟩
    have hk5 : a.kind = 5 ∨ a.kind = 6 := by omega
    have hw : worldStep me x a = ({ x with disk := streamsM x.disk me a }, {}) := by unfold worldStep; rw [if_neg (by omega)]
    rw [hw]
    have up : ∀ {e w'} {d' : DiskM}, (∃ v', e = Ending.returned (.tuple #[v', .agg #[.int .u64 0, .slice none 0 0, .bool false]]) ∧ Same [] w w' ∧ RWorld M w' v' { x with disk := d' }) →
        ∃ v', e = Ending.returned (.tuple #[v', .agg #[.int .u64 ((({} : Res).n : Nat) : Int), .slice none 0 0, .bool false]]) ∧ Same [] w w' ∧ RWorld M w' v' { x with disk := d' } ∧ ({} : Res).n < W64 ∧ ({} : Res).b = [] ∧ ({} : Res).fail = false :=
      fun ⟨v', h1, h2, h3⟩ => ⟨v', h1, h2, h3, W64_pos, rfl, rfl⟩
    rcases hk5 with hk5 | hk5 <;> rcases hr with hr | hr
    · have hd : streamsM x.disk me a = { x.disk with row0 := x.disk.row0.modify me (fun s => appendM s a.data) } := by simp [streamsM, hk5, hr, turnD, setRowM, rowM]
      have hfit5 : s0.data.length + a.data.length ≤ 1000000000 := by
        have := of_decide_eq_true hfd hk5; simpa [rowM, hr, List.getD_eq_getElem?_getD, hs0] using this
      rw [hd]; exact (Do_5_0 hk5 hr hv ha hM hs0 hok.r0 hfit5).mono fun _ _ h => up h
    · have hd : streamsM x.disk me a = { x.disk with row1 := x.disk.row1.modify me (fun s => appendM s a.data) } := by simp [streamsM, hk5, hr, turnD, setRowM, rowM]
      have hfit5 : s1.data.length + a.data.length ≤ 1000000000 := by
        have := of_decide_eq_true hfd hk5; simpa [rowM, hr, List.getD_eq_getElem?_getD, hs1] using this
      rw [hd]; exact (Do_5_1 hk5 hr hv ha hM hs1 hok.r1 hfit5).mono fun _ _ h => up h
    · have hd : streamsM x.disk me a = { x.disk with row0 := x.disk.row0.modify me syncM } := by simp [streamsM, hk5, hr, turnD, setRowM, rowM]
      rw [hd]; exact (Do_6_0 hk5 hr hv ha hM hs0 hok.r0).mono fun _ _ h => up h
    · have hd : streamsM x.disk me a = { x.disk with row1 := x.disk.row1.modify me syncM } := by simp [streamsM, hk5, hr, turnD, setRowM, rowM]
      rw [hd]; exact (Do_6_1 hk5 hr hv ha hM hs1 hok.r1).mono fun _ _ h => up h

/-- What is left of a program that has been told so much. -/
def resid {α : Type} : Prog α → List Res → Option (Prog α)
  | p, [] => some p
  | .ask _ k, r :: l => resid (k r) l
  | .ret _, _ :: _ => none
  | .stuck, _ :: _ => none

theorem runW_ask {α : Type} {me : Nat} {a : Acc} {k : Res → Prog α} {x z : WorldM} {o : α} {l : List Res} (h : runW me (.ask a k) x = some (o, z, l)) :
    worldTold me x a ≠ .unfit ∧ ∃ l', l = (worldStep me x a).2 :: l' ∧ runW me (k (worldStep me x a).2) (worldStep me x a).1 = some (o, z, l') := by
  simp only [runW] at h
  unfold worldTold at h ⊢
  by_cases hc : a.kind ≤ 6 ∧ fitD x.disk me a
  · rw [if_pos hc] at h ⊢
    simp only at h
    cases hr : runW me (k (worldStep me x a).2) (worldStep me x a).1 with
    | none => rw [hr] at h; cases h
    | some t =>
      obtain ⟨o', z', l'⟩ := t
      rw [hr] at h
      simp only [Option.some.injEq, Prod.mk.injEq] at h
      obtain ⟨rfl, rfl, rfl⟩ := h
      exact ⟨by simp, l', rfl, rfl⟩
  · rw [if_neg hc] at h; cases h

theorem resid_snoc {α : Type} {p : Prog α} {l : List Res} {a : Acc} {k : Res → Prog α} (h : resid p l = some (.ask a k)) (r : Res) : resid p (l ++ [r]) = some (k r) := by
  induction l generalizing p with
  | nil =>
    cases p with
    | ret o => simp [resid] at h
    | stuck => simp [resid] at h
    | ask a' k' =>
      simp only [resid, Option.some.injEq, Prog.ask.injEq] at h
      obtain ⟨rfl, rfl⟩ := h
      simp only [List.nil_append, resid]
  | cons b l ih =>
    cases p with
    | ret o => simp [resid] at h
    | stuck => simp [resid] at h
    | ask a' k' => simp only [resid] at h; simp only [List.cons_append, resid]; exact ih h

theorem replay {α : Type} {p q : Prog α} {l : List Res} (pre : List Res) (h : resid p l = some q) {K : α → Nat → Prop} {S : Acc → Nat → Prop}
    (hq : q.wp (logStep (pre ++ l)) (pre.length + l.length) K S) : p.wp (logStep (pre ++ l)) pre.length K S := by
  induction l generalizing p pre with
  | nil =>
    have : q = p := by cases p <;> simp only [resid, Option.some.injEq] at h <;> exact h.symm
    subst this
    simpa using hq
  | cons r l ih =>
    cases p with
    | ret o => simp [resid] at h
    | stuck => simp [resid] at h
    | ask a k =>
      simp only [resid] at h
      have hst : logStep (pre ++ r :: l) pre.length a = .told r (pre.length + 1) := by
        unfold logStep
        rw [dif_pos (by simp)]
        simp
      simp only [Prog.wp, hst]
      have e : pre ++ r :: l = (pre ++ [r]) ++ l := by simp
      have h2 := ih (pre := pre ++ [r]) h (by rw [← e]; simpa [Nat.add_assoc, Nat.add_comm 1] using hq)
      rw [← e] at h2
      simpa using h2

theorem replay_ret {α : Type} {p : Prog α} {l : List Res} {o : α} (h : resid p l = some (.ret o)) : p.wp (logStep l) 0 (fun a _ => a = o) (fun _ _ => False) := by
  have := replay (K := fun a _ => a = o) (S := fun _ _ => False) [] h (by simp [Prog.wp])
  simpa using this
theorem replay_ask {α : Type} {p : Prog α} {l : List Res} {a : Acc} {k : Res → Prog α} (h : resid p l = some (.ask a k)) : p.wp (logStep l) 0 (fun _ _ => False) (fun b _ => b = a) := by
  have hst : logStep ([] ++ l) (([] : List Res).length + l.length) a = .stop := by unfold logStep; rw [dif_neg (by simp)]
  have := replay (K := fun _ _ => False) (S := fun b _ => b = a) [] h (by simp only [Prog.wp, hst])
  simpa using this
end Go.Proofs.YtdfeinfaljidgaaDoor
