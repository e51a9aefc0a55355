/- ListSwept of package wealdlaw15, proved for every input: SWEPT: alone, a sweep takes out all edges that have a stamp at one of their ends, and all that was marked, and nothing else; flags tell that they are dead.
The card's conditions: the one package-level variable that the law comes to (the table of the check) starts as the program's text lays it; the translation is the judge's own; the tie speaks of the pruned copy of the project. -/
import Derived.Test.YtdfeinfaljidgaaDoorLift
import Derived.Test.YtdfeinfaljidgaaDoorSwept
import Derived.Test.YtdfeinfaljidgaaDoorPut
import Derived.Test.YtdfeinfaljidgaaDoorCards
import Derived.Test.YtdfeinfaljidgaaDoorTie
namespace Go.Proofs.YtdfeinfaljidgaaDoor
open Go Go.RowKit Go.ChangeShapes Go.WideShapes Go.ChangeAt

set_option maxRecDepth 100000 in
theorem listSwept_contract (H : Type) (enc : TypeId × Value → H) (W : World) (base : Nat) (args : Array Value) (ds gs : List (DataW H)) (before : List MemPlace)
    (hval : ∀ (j : Nat) t v, Tryd.f4.params[j]? = some t → args[j]? = some v → Value.okWide Tryd.prog W .any base t v)
    (hW : DataW.Whole enc Tryd.prog Tryd.f4.params.toList Rows.listSweptSpec.vars false W args.toList ds gs before)
    (hz : (DataW.weightsEach Tryd.prog (Tryd.f4.params.toList ++ (OpenSpec.ofChange Rows.listSweptSpec).bare.plain.varTypes Tryd.prog) (ds ++ gs)).all (· ≤ reachBytes) = true) (hL : laidMetH Tryd.prog Rows.listSweptRow.laid W) :
    Calls Tryd.prog 4 args W fun e W' => ∃ v, e = .returned v ∧ Rows.listSweptSpec.post enc Tryd.prog Tryd.f4 false true false false W args v W' := by
  have hW' := hW
  obtain ⟨p, q, hA0, hV, rfl, _, _⟩ := hW
  have hA : DataW.TrodAll enc Tryd.prog W 0 (fun _ => true) true Tryd.f4.params.toList args.toList ds p := hA0
  rw [Tryd.params4] at hA hval hz
  obtain ⟨v0, vs0, d0, ds0, p0, q0, hargs, rfl, rfl, h0, r0⟩ := trodAll_cons hA
  obtain ⟨v1, vs1, d1, ds1, p1, q1, rfl, rfl, rfl, h1, r1⟩ := trodAll_cons r0
  obtain ⟨v2, vs2, d2, ds2, p2, q2, rfl, rfl, rfl, h2, r2⟩ := trodAll_cons r1
  obtain ⟨rfl, rfl, rfl⟩ := trodAll_nil r2
  obtain rfl : args = #[v0, v1, v2] := by cases args; simp_all
  obtain ⟨rfl, rfl⟩ := trodVars_none hV
  clear hA0
  obtain ⟨b0, hb0⟩ := bytes_in (by kernel_rfl) h0 (hval 0 _ v0 rfl rfl) (small_of hz (j := 0) rfl rfl (e := 5) (by kernel_rfl) (by decide +kernel))
  obtain ⟨b1, hb1⟩ := bools_in (by kernel_rfl) h1 (hval 1 _ v1 rfl rfl) (small_of hz (j := 1) rfl rfl (e := 4) (by kernel_rfl) (by decide +kernel))
  obtain ⟨n2, rfl, rfl, rfl, hw2⟩ := open_int (k := .u8) (by kernel_rfl) (hval 2 _ v2 rfl rfl) h2
  have hn2 := bounds_u8 hw2
  obtain ⟨k2, rfl⟩ : ∃ k : Nat, n2 = k := ⟨n2.toNat, by omega⟩
  refine (ListSwept_walk bytesSpec (halves_of_laid hL) hb0 hb1 (by omega)).mono fun e W' ⟨he, hs⟩ => ?_
  subst he
  exact ⟨_, rfl, true_post (s := Rows.listSweptSpec) rfl rfl hW' (by rw [Tryd.params4]; decide +kernel) rfl hs⟩

/-- A world for the witness: the settled one, the table holding what its initialiser lays. -/
noncomputable def listSweptWorld (os : Os) : World :=
  { World.holding Tryd.prog os ⟨#[], #[], []⟩ with heap := (World.holding Tryd.prog os ⟨#[], #[], []⟩).heap.modify 0 fun
      | .cells _ t frozen => .cells (halvesL.map fun n => Value.int .u32 (n : Nat)).toArray t frozen
      | o => o }
theorem listSwept_laid (os : Os) : laidMet Tryd.prog Rows.listSweptRow.laid ((listSweptWorld os).forCall (fun _ _ => 0) ⟨#[], #[.slice none 0 0, .slice none 0 0, .int .u8 0], []⟩).memory :=
  laidMet_of_run' 8 (by kernel_rfl) (by kernel_rfl)
theorem listSwept_reads (os : Os) {H : Type} (enc : TypeId × Value → H) : ∃ places, DataW.whole enc Tryd.prog ((listSweptWorld os).forCall (fun _ _ => 0) ⟨#[], #[.slice none 0 0, .slice none 0 0, .int .u8 0], []⟩).memory Tryd.f4.params.toList Rows.listSweptSpec.vars false (#[.slice none 0 0, .slice none 0 0, .int .u8 0] : Array Value).toList 8 = some ([.nil, .nil, .lit (.int .u8 0)], [], places) :=
  ⟨[], by kernel_rfl⟩

set_option maxRecDepth 100000 in
theorem listSwept_lifted (os : Os) (started : os.Started) (H : Type) (enc : TypeId × Value → H) (F : Stop.Interp) :
    ReturnsInHanded {} Tryd.checked os 4 .any ((OpenSpec.ofChange Rows.listSweptSpec).preRow enc Tryd.prog Tryd.f4 Rows.listSweptRow.domain false Rows.listSweptRow.laid) (((OpenSpec.ofChange Rows.listSweptSpec).at F).post enc Tryd.prog Tryd.f4 false true false false) := by
  obtain ⟨places, hx⟩ := listSwept_reads os enc
  refine returnsInHanded_of_row (C := Tryd.checked) (s := OpenSpec.ofChange Rows.listSweptSpec) kOwn started (by kernel_rfl) Tryd.func4
    (witness_row_at (enc := enc) (C := Tryd.checked) false (listSweptWorld os) #[.slice none 0 0, .slice none 0 0, .int .u8 0] rfl (by kernel_rfl) (by kernel_rfl) (by kernel_rfl)
      (OpenSpec.preRow_of_cond 8 hx (by kernel_rfl) (fun k hk => by cases hk) (by kernel_rfl) (listSwept_laid os))) ?_
  intro W base args ds gs before hval hW _ _ hz hL _ _
  exact listSwept_contract H enc W base args ds gs before hval hW hz hL

theorem listSwept_said : Rows.ListSweptSaid :=
  OpenClaim.holds_of_cond 4 Tryd.f4 rfl rfl rfl rfl rfl rfl rfl ⟨rfl, rfl, rfl, rfl, rfl⟩ rfl rfl rfl rfl rfl (by kernel_rfl) Tryd.func4 (by kernel_rfl)
    (of_decide_eq_true (by kernel_rfl)) (by unfold Func.isWrapper; first | (rw [if_pos (by decide +kernel)]; kernel_rfl) | (rw [if_neg (by decide +kernel)]; exact ⟨rfl, rfl⟩))
    (fun os started H enc _ F => by rw [OpenClaim.pre_eq_preRow]; exact listSwept_lifted os started H enc F)

theorem listSwept_plain (f : FuncId) (fn : Func) (hf : Tryd.pinned.checked.prog.funcNamed "weald/wealdlaw15.ListSwept" = some f) (hfn : Tryd.pinned.checked.prog.funcs[f]? = some fn) :
    true = Tryd.pinned.checked.prog.looks [] ∧ ∀ (j : Nat) t, fn.params[j]? = some t → Tryd.pinned.checked.prog.wantsStandIn t = false := by
  obtain rfl : f = 4 := Option.some.inj ((show Tryd.prog.funcNamed "weald/wealdlaw15.ListSwept" = some 4 by kernel_rfl).symm.trans hf) |>.symm
  obtain rfl : fn = Tryd.f4 := (Option.some.inj (Tryd.func4.symm.trans hfn)).symm
  refine ⟨by kernel_rfl, fun j t ht => ?_⟩
  rw [Tryd.params4] at ht
  have hall : ∀ t, t ∈ [22, 47, 5] → Tryd.prog.wantsStandIn t = false := by
    intro t ht
    simp only [List.mem_cons, List.not_mem_nil, or_false] at ht
    rcases ht with rfl | rfl | rfl <;> kernel_rfl
  exact hall t (by simpa using Array.mem_of_getElem? ht)

/-- The card. -/
theorem listSwept_card : Rows.ListSweptCardSaid :=
  Claim7.holds_tied_plain_at .later [] _ _ _ _ listSwept_said (fun _ h => by cases h) (by kernel_rfl) (fun _ h => by cases h) listSwept_row_tie rfl ⟨rfl, rfl⟩ (by kernel_rfl) rfl listSwept_plain (by kernel_rfl)
end Go.Proofs.YtdfeinfaljidgaaDoor
