/- What a function value that makes accesses promises ('DoSem'), and the contracts of package play's five short functions over it. -/
import Derived.Test.YtdfeinfaljidgaaDoorProg
import Derived.Test.YtdfeinfaljidgaaDoorSpec
import Derived.WalkLawsBesides
namespace Go.Proofs.YtdfeinfaljidgaaDoor
open Go Go.RowKit

@[go_sem] theorem field_res0 (x bv f : Value) (w : World) : (Instr.field 77 (.agg #[x, bv, f]) 0).run Tryd.prog w = .ok x w := by kernel_rfl
@[go_sem] theorem field_res2 (x bv f : Value) (w : World) : (Instr.field 77 (.agg #[x, bv, f]) 2).run Tryd.prog w = .ok f w := by kernel_rfl

def needEntry (av : Value) : PanicEntry := { v := .iface 112 av, recovered := false }

/-- The table of the check lies in its variable. -/
def Halves (w : World) : Prop := ∃ e fr, w.heap[0]? = some (.cells (halvesL.map fun n => Value.int .u32 (n : Nat)).toArray e fr)
theorem Halves.lt {w : World} (h : Halves w) : 0 < w.heap.size := by obtain ⟨_, _, h⟩ := h; exact lt_of_some h
theorem Halves.same {w w' : World} {D : List Nat} (h : Halves w) (hs : Same D w w') (hD : 0 ∉ D) : Halves w' := by
  have hl := h.lt
  obtain ⟨e, fr, h⟩ := h
  exact ⟨e, fr, (hs.block _ hl hD).trans h⟩

/-- A function value that makes accesses: its state's steps, and what memory has to do with it. D: blocks that it writes; M: blocks that are written by whoever. -/
structure DoSem where
  σ : Type
  fid : FuncId
  caps : Array Value
  D : List Nat
  Inv : List Nat → σ → World → Prop
  step : σ → Acc → Told σ
  enter : ∀ args w, (callFunc fid args).run Tryd.prog w = .ok (.enter fid args) w
  halves : ∀ {M s w}, Inv M s w → Halves w
  sub : ∀ {M s w}, Inv M s w → ∀ k, k ∈ D → k ∈ M
  lt : ∀ {M s w}, Inv M s w → ∀ k, k ∈ M → k < w.heap.size
  anti : ∀ {M M' s w}, Inv M' s w → (∀ k, k ∈ M → k ∈ M') → (∀ k, k ∈ D → k ∈ M) → Inv M s w
  grow : ∀ {M M' E s w w'}, Inv M s w → Same E w w' → (∀ k, k ∈ E → k ∈ M ∧ k ∉ D) → (∀ k, k ∈ M → k ∈ M') → (∀ k, k ∈ M' → k ∈ M ∨ w.heap.size ≤ k) → (∀ k, k ∈ M' → k < w'.heap.size) → Inv M' s w'
  call : ∀ {M s w av a}, Inv M s w → RAcc M w av a → step s a ≠ .unfit → Calls Tryd.prog fid (#[av] ++ caps) w fun e w' => Same D w w' ∧
    match step s a with
    | .told r s' => Inv M s' w' ∧ ∃ rv, e = .returned rv ∧ RRes M w' rv r
    | .stop => Inv M s w' ∧ e = .panicked [needEntry av]
    | .unfit => True

namespace DoSem
def val (d : DoSem) : Value := .func (.func d.fid) #[] d.caps
def wp (d : DoSem) {α : Type} (p : Prog α) (s : d.σ) (K : α → d.σ → Prop) (S : Acc → d.σ → Prop) : Prop := p.wp d.step s K S
theorem wp_bind {d : DoSem} {α β : Type} {p : Prog α} {f : α → Prog β} {s : d.σ} {K : β → d.σ → Prop} {S : Acc → d.σ → Prop} (h : d.wp (p >>= f) s K S) : d.wp p s (fun a s' => d.wp (f a) s' K S) S := (Prog.wp_bind ..).1 h
theorem wp_ret {d : DoSem} {α : Type} {a : α} {s : d.σ} {K : α → d.σ → Prop} {S : Acc → d.σ → Prop} (h : d.wp (pure a) s K S) : K a s := h

/-- Where the log ends: the function is left by a panic, that bears the access. -/
def Stops (d : DoSem) (E M : List Nat) (w : World) (S : Acc → d.σ → Prop) (Q : Ending → World → Prop) : Prop :=
  ∀ a s w' av, Same E w w' → d.Inv M s w' → RAcc M w' av a → S a s → Q (.panicked [needEntry av]) w'

/-- The same, deeper: from a later world, with more blocks that are written. -/
theorem Stops.up {d : DoSem} {E E' M M' : List Nat} {w w1 : World} {S : Acc → d.σ → Prop} {Q : Ending → World → Prop} (h : d.Stops E M w S Q) (hs : Same E w w1) (hE : ∀ k, k ∈ E' → k ∈ E ∨ w.heap.size ≤ k) (hM : ∀ k, k ∈ M → k ∈ M') (hD : ∀ k, k ∈ d.D → k ∈ M) : d.Stops E' M' w1 S Q :=
  fun a s w' av hs' hI ha hS => h a s w' av (hs.trans hs' hE) (d.anti hI hM hD) (ha.grow fun x hx => .inl (hM x hx)) hS

theorem drew (d : DoSem) {M : List Nat} {s : d.σ} {w : World} (h : d.Inv M s w) : d.Inv M s w.drew :=
  d.grow h (E := []) ((Same.refl [] w).drew) (by simp) (fun _ h => h) (fun _ h => .inl h) (fun k hk => d.lt h k hk)
theorem Stops.drew {d : DoSem} {E M : List Nat} {w : World} {S : Acc → d.σ → Prop} {Q : Ending → World → Prop} (h : d.Stops E M w S Q) : d.Stops E M w.drew S Q :=
  fun a s w' av hs => h a s w' av ((Same.refl E w).drew.trans hs fun _ hx => .inl hx)

theorem Stops.at {d : DoSem} {E M : List Nat} {w w1 : World} {S : Acc → d.σ → Prop} {Q : Ending → World → Prop} (h : d.Stops E M w S Q) (hs : Same E w w1) : d.Stops E M w1 S Q :=
  fun a s w' av hs' hI ha hS => h a s w' av (hs.trans hs' fun _ hx => .inl hx) hI ha hS

/-- A store into a block that somebody else writes. -/
theorem setLocal (d : DoSem) {M : List Nat} {s : d.σ} {w : World} {b o : Nat} {v : Value} (h : d.Inv M s w) (hb : b ∈ M) (hD : b ∉ d.D) : d.Inv M s (w.setCell ⟨b, o, none⟩ v) :=
  d.grow h (E := [b]) ((Same.refl [b] w).setCell (.inl (List.mem_cons_self ..)) v) (fun k hk => by simp only [List.mem_singleton] at hk; subst hk; exact ⟨hb, hD⟩) (fun _ h => h) (fun _ h => .inl h) (fun k hk => by simpa [World.setCell] using d.lt h k hk)
/-- A new block that the walk writes itself. -/
theorem alloc (d : DoSem) {M : List Nat} {s : d.σ} {w : World} (o : Obj) (h : d.Inv M s w) : d.Inv (w.heap.size :: M) s (w.alloc o) :=
  d.grow h (E := []) ((Same.refl [] w).alloc o) (by simp) (fun _ h => List.mem_cons_of_mem _ h) (fun k hk => by rcases List.mem_cons.1 hk with rfl | hk; exact .inr (Nat.le_refl _); exact .inl hk)
    (fun k hk => by rcases List.mem_cons.1 hk with rfl | hk <;> simp; have := d.lt h k hk; omega)
/-- A new block that nobody writes. -/
theorem allocOld (d : DoSem) {M : List Nat} {s : d.σ} {w : World} (o : Obj) (h : d.Inv M s w) : d.Inv M s (w.alloc o) :=
  d.grow h (E := []) ((Same.refl [] w).alloc o) (by simp) (fun _ h => h) (fun k hk => .inl hk) (fun k hk => by simp; have := d.lt h k hk; omega)
/-- A call that leaves alone all that was there. -/
theorem keep (d : DoSem) {M : List Nat} {s : d.σ} {w w' : World} (h : d.Inv M s w) (hs : Same [] w w') : d.Inv M s w' :=
  d.grow h (E := []) hs (by simp) (fun _ h => h) (fun k hk => .inl hk) (fun k hk => Nat.lt_of_lt_of_le (d.lt h k hk) hs.size)
theorem Stops.keep {d : DoSem} {E M : List Nat} {w w1 : World} {S : Acc → d.σ → Prop} {Q : Ending → World → Prop} (h : d.Stops E M w S Q) (hs : Same [] w w1) : d.Stops E M w1 S Q :=
  h.at (hs.mono (by simp))
theorem notin (d : DoSem) {M : List Nat} {s : d.σ} {w : World} (h : d.Inv M s w) {k : Nat} (hk : w.heap.size ≤ k) : k ∉ d.D := fun x => by have := d.lt h k (d.sub h k x); omega
theorem notinM (d : DoSem) {M : List Nat} {s : d.σ} {w : World} (h : d.Inv M s w) {k : Nat} (hk : w.heap.size ≤ k) : k ∉ M := fun x => by have := d.lt h k x; omega

/-- A call of it. -/
theorem call_wp (d : DoSem) {α : Type} {M : List Nat} {s : d.σ} {w : World} {av : Value} {a : Acc} {k : Res → Prog α} {K : α → d.σ → Prop} {S : Acc → d.σ → Prop} {Q : Ending → World → Prop}
    (hI : d.Inv M s w) (ha : RAcc M w av a) (h : d.wp (.ask a k) s K S)
    (hok : ∀ w' rv r s', Same d.D w w' → d.Inv M s' w' → RRes M w' rv r → d.wp (k r) s' K S → Q (.returned rv) w') (hstop : d.Stops d.D M w S Q) : Calls Tryd.prog d.fid (#[av] ++ d.caps) w Q := by
  unfold DoSem.wp Prog.wp at h
  have hfit : d.step s a ≠ .unfit := fun hu => by rw [hu] at h; exact h
  refine (d.call hI ha hfit).mono ?_
  rintro e w' ⟨hs, hm⟩
  split at hm
  · rename_i r s' hst
    rw [hst] at h
    obtain ⟨hI', rv, rfl, hr⟩ := hm
    exact hok w' rv r s' hs hI' hr h
  · rename_i hst
    rw [hst] at h
    obtain ⟨hI', rfl⟩ := hm
    exact hstop _ _ w' av hs hI' (ha.same hs (d.sub hI)) h
  · rename_i hst
    exact absurd hst hfit
end DoSem

theorem racc_word {M : List Nat} {w : World} {k : Nat} {i : Int} {a b : Nat} (hk : k ≤ 13) (ha : a < W64) (hb : b < W64) :
    RAcc M w (.agg #[.int .i64 k, .int .i64 i, .int .u64 a, .int .u64 b, .slice none 0 0, .slice none 0 0]) { kind := k, cell := i, a := a, b := b } :=
  ⟨_, _, rfl, Bytes.nil _ _, U64s.nil _ _, ha, hb, hk⟩

theorem beq_one (n : Nat) : (((n : Nat) : Int) == 1) = (n == 1) := by rw [Bool.eq_iff_iff]; simp; omega

theorem W64_zero : 0 < W64 := by decide

theorem load_any (d : DoSem) {M : List Nat} {s : d.σ} {w : World} {i : Int} {K : Nat → d.σ → Prop} {S : Acc → d.σ → Prop} {Q : Ending → World → Prop} (hI : d.Inv M s w) (h : d.wp (load i) s K S)
    (hok : ∀ n s' w', Same d.D w w' → d.Inv M s' w' → n < W64 → K n s' → Q (.returned (.int .u64 n)) w') (hstop : d.Stops d.D M w S Q) :
    Calls Tryd.prog 38 #[d.val, .int .i64 i] w Q := by
  have he := d.enter
  unfold DoSem.val
  go_enter Tryd.func38, Tryd.ntmps38
  go_wp2
  refine d.call_wp hI (racc_word (k := 0) (by decide) W64_zero W64_zero) h ?_ ?_
  · rintro w' rv r s' hs hI' ⟨bv, rfl, _, hr⟩ hK
    clear he
    have Hr := hid hr; have HK := hid hK; clear hr hK
    go_wp2
    exact hok _ _ _ hs hI' Hr.out HK.out
  · intro a s w' av hs hI' ha hS
    exact ⟨rfl, hstop _ _ _ _ hs hI' ha hS⟩





































theorem store_any (d : DoSem) {M : List Nat} {s : d.σ} {w : World} {i : Int} {n : Nat} {K : Unit → d.σ → Prop} {S : Acc → d.σ → Prop} {Q : Ending → World → Prop} (hI : d.Inv M s w) (hn : n < W64) (h : d.wp (store i n) s K S)
    (hok : ∀ s' w', Same d.D w w' → d.Inv M s' w' → K () s' → Q (.returned (.tuple #[])) w') (hstop : d.Stops d.D M w S Q) :
    Calls Tryd.prog 35 #[d.val, .int .i64 i, .int .u64 n] w Q := by
  have he := d.enter
  unfold DoSem.val
  go_enter Tryd.func35, Tryd.ntmps35
  go_wp2
  refine d.call_wp hI (racc_word (k := 1) (by decide) hn W64_zero) h ?_ ?_
  · rintro w' rv r s' hs hI' ⟨bv, rfl, _, hr⟩ hK
    clear he
    have Hr := hid hr; have HK := hid hK; clear hr hK
    go_wp2
    go_end0
    exact hok _ _ hs hI' HK.out
  · intro a s w' av hs hI' ha hS
    exact ⟨rfl, hstop _ _ _ _ hs hI' ha hS⟩

theorem cas_any (d : DoSem) {M : List Nat} {s : d.σ} {w : World} {i : Int} {x y : Nat} {K : Bool → d.σ → Prop} {S : Acc → d.σ → Prop} {Q : Ending → World → Prop} (hI : d.Inv M s w) (hx : x < W64) (hy : y < W64) (h : d.wp (cas i x y) s K S)
    (hok : ∀ b s' w', Same d.D w w' → d.Inv M s' w' → K b s' → Q (.returned (.bool b)) w') (hstop : d.Stops d.D M w S Q) :
    Calls Tryd.prog 37 #[d.val, .int .i64 i, .int .u64 x, .int .u64 y] w Q := by
  have he := d.enter
  unfold DoSem.val
  go_enter Tryd.func37, Tryd.ntmps37
  go_wp2
  refine d.call_wp hI (racc_word (k := 2) (by decide) hx hy) h ?_ ?_
  · rintro w' rv r s' hs hI' ⟨bv, rfl, _, hr⟩ hK
    clear he
    have Hr := hid hr; have HK := hid hK; clear hr hK
    go_wp2
    rw [beq_one]
    exact hok _ _ _ hs hI' HK.out
  · intro a s w' av hs hI' ha hS
    exact ⟨rfl, hstop _ _ _ _ hs hI' ha hS⟩
end Go.Proofs.YtdfeinfaljidgaaDoor
