/- A scope whose first statement is a label that the run jumps back to, by a number that every pass lowers. -/
import Derived.ScopeJumps
import Derived.WalkKit
import Derived.Deep.LoopGhost
namespace Go.Proofs.YtdfeinfaljidgaaDoor
open Go

section
variable {P : Program} {a : Act} {w : World} {Q : Exit → Act → World → Prop}
@[go_sem] theorem jump_normal {l : Nat} {J : Act → World → Prop} : Exit.jump l J Q .normal a w = Q .normal a w := rfl
@[go_sem] theorem jump_exit {l id : Nat} {J : Act → World → Prop} : Exit.jump l J Q (.exit id) a w = Q (.exit id) a w := rfl
@[go_sem] theorem jump_ret {l : Nat} {J : Act → World → Prop} : Exit.jump l J Q .ret a w = Q .ret a w := rfl
@[go_sem] theorem jump_panic {l : Nat} {J : Act → World → Prop} {c : List PanicEntry} : Exit.jump l J Q (.panic c) a w = Q (.panic c) a w := rfl
@[go_sem] theorem jump_goto {l : Nat} {J : Act → World → Prop} : Exit.jump l J Q (.goto l) a w = J a w := by simp [Exit.jump]
@[go_sem] theorem jump_outgrown {l : Nat} {J : Act → World → Prop} : Exit.jump l J Q .outgrown a w = Q .outgrown a w := rfl

theorem wp_scope_label {X : Code} (l : Nat) (I : Nat → Act → World → Prop) (n₀ : Nat) (h₀ : I n₀ a w)
    (pass : ∀ n a w, I n a w → ∀ K : Act → World → Prop, (∀ n' a' w', n' < n → I n' a' w' → K a' w') → X.wp P (Exit.jump l K Q) a w) : (Code.scope ((Code.label l).seq X)).wp P Q a w := by
  have hl : ∀ n a w, I n a w → X.wp P (Exit.jump l (fun a' w' => ∃ n', n' < n ∧ I n' a' w') Q) a w := fun n a w h => pass n a w h _ fun n' a' w' hn hI => ⟨n', hn, hI⟩
  refine wp_scope_jumps (rest := Code.skip.seq X) l (fun a w => ∃ n, I n a w) (fun a w => leastOf (fun n => I n a w)) (by simp [findLabel]) ?_ ?_
  · refine wp_seq (wp_label ?_)
    refine wp_mono (hl n₀ a w h₀) ?_
    intro e a' w' hq
    cases e with
    | goto l' => exact ⟨hq.1, hq.2.choose, hq.2.choose_spec.2⟩
    | _ => exact hq
  · intro a w hI
    refine wp_seq (wp_skip ?_)
    refine wp_mono (hl _ a w (leastOf_spec hI).1) ?_
    intro e a' w' hq
    cases e with
    | goto l' =>
      obtain ⟨he, n', hlt, hI'⟩ := hq
      exact ⟨he, ⟨n', hI'⟩, Nat.lt_of_le_of_lt ((leastOf_spec ⟨n', hI'⟩).2 n' hI') hlt⟩
    | _ => exact hq
end
end Go.Proofs.YtdfeinfaljidgaaDoor
