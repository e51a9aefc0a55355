/- The contract of play.Run: a program is told by a log; where that ends it is left by a panic, that is recovered. -/
import Derived.Test.YtdfeinfaljidgaaDoorDo
import Derived.Test.YtdfeinfaljidgaaDoorPure
import Derived.Recover
namespace Go.Proofs.YtdfeinfaljidgaaDoor
open Go Go.RowKit

def logStep (log : List Res) (s : Nat) (_ : Acc) : Told Nat := if h : s < log.length then .told log[s] (s + 1) else .stop

structure LogInv (bat blog : Nat) (logv : Value) (log : List Res) (M : List Nat) (s : Nat) (w : World) : Prop where
  lt : ∀ k, k ∈ M → k < w.heap.size
  halves : Halves w
  hnot : 0 ∉ M
  atM : bat ∈ M
  at_ : w.heap[bat]? = some (.cells #[.int .i64 (s : Nat)] 3 (0, 0))
  logM : blog ∉ M
  log_ : w.heap[blog]? = some (.cells #[logv] 71 (0, 0))
  row : RLog M w logv log
  le : s ≤ log.length

theorem LogInv.grow {bat blog : Nat} {logv : Value} {log : List Res} {M M' E : List Nat} {s : Nat} {w w' : World} (h : LogInv bat blog logv log M s w) (hs : Same E w w') (hE : ∀ k, k ∈ E → k ∈ M ∧ k ∉ [bat])
    (h1 : ∀ k, k ∈ M → k ∈ M') (h2 : ∀ k, k ∈ M' → k ∈ M ∨ w.heap.size ≤ k) (h3 : ∀ k, k ∈ M' → k < w'.heap.size) : LogInv bat blog logv log M' s w' := by
  have hEM : ∀ k, k ∈ E → k ∈ M := fun k hk => (hE k hk).1
  have old : ∀ k, k < w.heap.size → k ∉ M → k ∉ M' := fun k hk hn hm => by rcases h2 k hm with h | h; exact hn h; omega
  exact ⟨h3, h.halves.same hs (fun hm => h.hnot (hEM _ hm)), old _ h.halves.lt h.hnot, h1 _ h.atM,
    (hs.block _ (lt_of_some h.at_) (fun hm => (hE _ hm).2 (by simp))).trans h.at_, old _ (lt_of_some h.log_) h.logM, (hs.block _ (lt_of_some h.log_) (fun hm => h.logM (hEM _ hm))).trans h.log_, (h.row.grow h2).same hs (fun x hx => h1 x (hEM x hx)), h.le⟩

theorem LogInv.keep {bat blog : Nat} {logv : Value} {log : List Res} {M : List Nat} {s : Nat} {w w' : World} (h : LogInv bat blog logv log M s w) (hs : Same [] w w') : LogInv bat blog logv log M s w' :=
  h.grow hs (by simp) (fun _ h => h) (fun _ h => .inl h) (fun k hk => Nat.lt_of_lt_of_le (h.lt k hk) hs.size)

theorem LogInv.set {bat blog : Nat} {logv : Value} {log : List Res} {M : List Nat} {s : Nat} {w : World} (h : LogInv bat blog logv log M s w) (hs : s < log.length) : LogInv bat blog logv log M (s + 1) (w.setCell ⟨bat, 0, none⟩ (.int .i64 ((s : Int) + 1))) := by
  have hsm : Same [bat] w (w.setCell ⟨bat, 0, none⟩ (.int .i64 ((s : Int) + 1))) := (Same.refl _ w).set (.inl (by simp))
  have hM1 : ∀ x, x ∈ [bat] → x ∈ M := fun x hx => by simp only [List.mem_singleton] at hx; subst hx; exact h.atM
  have ne1 : blog ∉ [bat] := by simp only [List.mem_singleton]; rintro rfl; exact h.logM h.atM
  have ne2 : 0 ∉ [bat] := fun x => h.hnot (hM1 _ x)
  exact ⟨fun k hk => Nat.lt_of_lt_of_le (h.lt k hk) hsm.size, h.halves.same hsm ne2, h.hnot, h.atM, block_set h.at_, h.logM, (hsm.block _ (lt_of_some h.log_) ne1).trans h.log_, h.row.same hsm hM1, hs⟩

theorem logCall {bat blog : Nat} {logv : Value} {log : List Res} {M : List Nat} {s : Nat} {w : World} {av : Value} {a : Acc} (hI : LogInv bat blog logv log M s w) (ha : RAcc M w av a) :
    Calls Tryd.prog 60 #[av, .pointer (some ⟨bat, 0, none⟩), .pointer (some ⟨blog, 0, none⟩)] w fun e w' => Same [bat] w w' ∧
      match logStep log s a with
      | .told r s' => LogInv bat blog logv log M s' w' ∧ ∃ rv, e = .returned rv ∧ RRes M w' rv r
      | .stop => LogInv bat blog logv log M s w' ∧ e = .panicked [needEntry av]
      | .unfit => True := by
  obtain ⟨dv, wv, rfl, hdv, hwv, _⟩ := ha
  obtain ⟨da, dl, dc, rfl⟩ := hdv.form
  obtain ⟨wa, wl, wc, rfl⟩ := hwv.form
  obtain ⟨la, lc, rfl, hmax⟩ := hI.row.form
  have q0 : w.cell? ⟨bat, 0, none⟩ = some (.int .i64 (s : Nat)) := cell_of_block hI.at_ rfl
  have q1 : w.cell? ⟨blog, 0, none⟩ = some (.slice la log.length lc) := cell_of_block hI.log_ rfl
  have q2 : w.frozen? ⟨bat, 0, none⟩ = false := frozen_of_block hI.at_
  have hle := hI.le
  have l0 : bat < w.heap.size := hI.lt _ hI.atM
  have l1 : bat < w.heap.size + 1 := by omega
  have l2 : blog < w.heap.size := lt_of_some hI.log_
  have l3 : blog < w.heap.size + 1 := by omega
  have ne1 : ¬ blog = bat := fun e => hI.logM (e ▸ hI.atM)
  have ne2 : ¬ bat = blog := fun e => ne1 e.symm
  by_cases hs : s < log.length
  · have hst : logStep log s a = .told log[s] (s + 1) := by simp [logStep, hs]
    rw [hst]
    obtain ⟨b, off, cap, bv, hv, c0, c1, c2, hbv, hn, hbM⟩ := hI.row.at hs
    obtain ⟨ba, bl, bc, rfl⟩ := hbv.form
    simp only [Value.slice.injEq, true_and] at hv
    obtain ⟨rfl, rfl⟩ := hv
    have l4 : b < w.heap.size := World.block_lt_of_cell? w _ c0
    have l5 : b < w.heap.size + 1 := by omega
    have ne3 : ¬ b = bat := fun e => hbM (e ▸ hI.atM)
    have ne4 : ¬ bat = b := fun e => ne3 e.symm
    have g1 : ((s : Int) == (log.length : Int)) = false := by simp; omega
    go_enter Tryd.func60, Tryd.ntmps60
    go_wp2
    refine bodyPost_ret (v := .agg #[.int .u64 (log[s].n : Nat), .slice ba bl bc, .bool log[s].fail]) (by simp [results, Tryd.results60, go_sem]) rfl ?_
    have hsm : Same [bat] w (w.setCell ⟨bat, 0, none⟩ (.int .i64 ((s : Int) + 1))) := (Same.refl _ w).set (.inl (by simp))
    have hk : ∀ o1 o2, Same [] (w.setCell ⟨bat, 0, none⟩ (.int .i64 ((s : Int) + 1))) (((w.setCell ⟨bat, 0, none⟩ (.int .i64 ((s : Int) + 1))).alloc o1).alloc o2) := fun o1 o2 => ((Same.refl _ _).alloc _).alloc _
    have hset := LogInv.set hI hs
    have hM1 : ∀ x, x ∈ [bat] → x ∈ M := fun x hx => by simp only [List.mem_singleton] at hx; subst hx; exact hI.atM
    refine ⟨(hsm.alloc _).alloc _, hset.keep (hk _ _), _, rfl, _, rfl, (hbv.same hsm hM1).same (hk _ _) (by simp), hn⟩
  · have hst : logStep log s a = .stop := by simp [logStep, hs]
    rw [hst]
    have g1 : ((s : Int) == (log.length : Int)) = true := by simp; omega
    go_enter Tryd.func60, Tryd.ntmps60
    go_wp2
    exact ⟨rfl, ((Same.refl _ w).alloc _).alloc _, hI.keep (((Same.refl _ w).alloc _).alloc _), rfl⟩

/-- What makes accesses within Run: told by a log. -/
def logDo (bat blog : Nat) (logv : Value) (log : List Res) : DoSem where
  σ := Nat
  fid := 60
  caps := #[.pointer (some ⟨bat, 0, none⟩), .pointer (some ⟨blog, 0, none⟩)]
  D := [bat]
  Inv := LogInv bat blog logv log
  step := logStep log
  enter := fun _ _ => by kernel_rfl
  halves := fun h => h.halves
  sub := fun h k hk => by simp only [List.mem_singleton] at hk; subst hk; exact h.atM
  lt := fun h => h.lt
  anti := fun h h1 h2 => ⟨fun k hk => h.lt k (h1 k hk), h.halves, fun hm => h.hnot (h1 _ hm), h2 _ (by simp), h.at_, fun hm => h.logM (h1 _ hm), h.log_, h.row.grow (fun x hx => .inl (h1 x hx)), h.le⟩
  grow := fun h hs hE h1 h2 h3 => h.grow hs hE h1 h2 h3
  call := fun {M s w av a} hI ha _ => (logCall hI ha).mono fun e w' h => ⟨h.1, by have h2 := h.2; revert h2; cases logStep log s a <;> exact id⟩

/-- A region whose first operation recovers; the others are as everywhere. -/
theorem wpS_recover {P : Program} {Q : Exit → Act → List Frame → World → Prop} {a : Act} {cs cs' : List Frame} {w : World} {id : Nat} {o : Oper} {rest : List Oper} {v : Value}
    (hw : Region.wanted o (yielded (o :: rest).toArray a.tmps) = true) (hrun : (execOp a.eval o).run P w = .ok .recover w)
    (hrec : recoverD cs = some (v, cs') ∨ (recoverD cs = none ∧ v = .nilIface ∧ cs' = cs)) (h : wpList P (o :: rest).toArray (fun e a' w' => Q e a' cs' w') rest (a.put o.dst v) w) :
    (Code.region id (o :: rest).toArray false).wpS P Q a cs w := by
  intro b k hb hro
  have ho : (o :: rest).toArray[0]? = some o := by simp
  have hwp : wpOps P (o :: rest).toArray (fun e a' w' => Q e a' cs' w') (List.range' 1 rest.length) (a.put o.dst v) w := by
    rw [wpOps_eq_wpList rest 1 (fun j => by simp [Nat.add_comm 1 j])]; exact h
  obtain ⟨e, a', w', hq, harr⟩ := wp_ops _ _ _ hwp b k cs'
  refine ⟨e, a', cs', w', hq, .of_steps (.head step_region (.one ?_)) harr⟩
  have hr : List.range (o :: rest).toArray.size = 0 :: List.range' 1 rest.length := by simp [List.range_eq_range', List.range'_succ]
  rw [hr]
  have hg := stepG_op (P := P) (b := b) (k := k) (cs := cs) (w := w) (rest := List.range' 1 rest.length) ho hw
  have hfin : ∀ v, (b.at a (.inRegion (o :: rest).toArray (0 :: List.range' 1 rest.length) :: k)).finish v = b.at (a.put o.dst v) (.inRegion (o :: rest).toArray (List.range' 1 rest.length) :: k) := by
    intro v; rw [Frame.finish_at, ho]; rfl
  have hk : (b.at a (.inRegion (o :: rest).toArray (0 :: List.range' 1 rest.length) :: k)).kind = .deferred := hb
  have htr := tryRecover_deferred hk cs
  refine step_lone_go ?_
  rw [hg, ← hfin]
  simp only [Frame.at] at htr ⊢
  rcases hrec with hrec | ⟨hrec, rfl, rfl⟩
  · simp [stepG.apply, hrun, htr, hrec]
  · simp [stepG.apply, hrun, htr, hrec]

@[go_sem] theorem thenS_normal {next : Act → List Frame → World → Prop} {Q : Exit → Act → List Frame → World → Prop} {a : Act} {cs : List Frame} {w : World} : Exit.thenS next Q .normal a cs w = next a cs w := rfl

@[go_sem] theorem assert_need (x : Value) (w : World) : (Instr.typeAssert (.iface 112 x) 20 112 true).run Tryd.prog w = .ok (.tuple #[x, .bool true]) w := by kernel_rfl
@[go_sem] theorem assert_nil (w : World) : (Instr.typeAssert .nilIface 20 112 true).run Tryd.prog w = .ok (.tuple #[.agg #[.int .i64 0, .int .i64 0, .int .u64 0, .int .u64 0, .slice none 0 0, .slice none 0 0], .bool false]) w := by kernel_rfl

def accZero : Array Value := #[.int .i64 0, .int .i64 0, .int .u64 0, .int .u64 0, .slice none 0 0, .slice none 0 0]
def outZero : Array Value := #[.int .i64 0, .bool false, .int .i64 0, .int .u64 0, .slice none 0 0]

/-- Run's deferred closure, where the program was left by a panic that bears an access. -/
theorem runCatch {ba bo bd : Nat} {kd : Nat} {ce : Int} {aa ab : Nat} {da wa : Option Addr} {dl dc wl wc : Nat} {w : World} {u : List PanicEntry}
    (ha : w.heap[ba]? = some (.cells accZero 73 (0, 0))) (ho : w.heap[bo]? = some (.cells outZero 38 (0, 0))) (hd : w.heap[bd]? = some (.cells #[.bool false] 4 (0, 0))) (n1 : ba ≠ bo) (n2 : ba ≠ bd) (n3 : bo ≠ bd) :
    CallsD Tryd.prog 59 #[.pointer (some ⟨ba, 0, none⟩), .pointer (some ⟨bo, 0, none⟩), .pointer (some ⟨bd, 0, none⟩)] (.panicking (needEntry (.agg #[.int .i64 kd, .int .i64 ce, .int .u64 aa, .int .u64 ab, .slice da dl dc, .slice wa wl wc]) :: u)) w fun e u' w' =>
      e = .returned (.tuple #[]) ∧ u' = .panicking ({ needEntry (.agg #[.int .i64 kd, .int .i64 ce, .int .u64 aa, .int .u64 ab, .slice da dl dc, .slice wa wl wc]) with recovered := true } :: u) ∧ Same [ba, bo, bd] w w' ∧
      w'.heap[ba]? = some (.cells #[.int .i64 kd, .int .i64 ce, .int .u64 aa, .int .u64 ab, .slice da dl dc, .slice wa wl wc] 73 (0, 0)) ∧ w'.heap[bo]? = some (.cells outZero 38 (0, 0)) ∧ w'.heap[bd]? = some (.cells #[.bool false] 4 (0, 0)) := by
  have l1 := lt_of_some ha; have l2 := lt_of_some ho; have l3 := lt_of_some hd
  have m1 : ¬ bo = ba := Ne.symm n1; have m2 : ¬ bd = ba := Ne.symm n2; have m3 : ¬ bd = bo := Ne.symm n3
  have k1 : ¬ ba = bo := n1; have k2 : ¬ ba = bd := n2; have k3 : ¬ bo = bd := n3
  have fa : ∀ o, w.frozen? ⟨ba, o, none⟩ = false := fun o => frozen_of_block ha
  have fo : ∀ o, w.frozen? ⟨bo, o, none⟩ = false := fun o => frozen_of_block ho
  have fd : ∀ o, w.frozen? ⟨bd, o, none⟩ = false := fun o => frozen_of_block hd
  obtain ⟨a0, a1, a2, a3, a4, a5⟩ := cells6 ha
  obtain ⟨o0, o1, o2, o3, o4⟩ := cells5 ho
  have d0 : w.cell? ⟨bd, 0, none⟩ = some (.bool false) := cell_of_block hd rfl
  have Ha := hid ha; have Ho := hid ho; have Hd := hid hd; clear ha ho hd n1 n2 n3
  refine callsD_of_wpS Tryd.func59 rfl fun c₀ cs hu => ?_
  simp only [Tryd.ntmps59, List.size_toArray, List.length_cons, List.length_nil, Nat.reduceAdd, Nat.reduceSub, Array.replicate_succ,
     Array.replicate_zero, List.push_toArray, List.append_toArray, List.nil_append, List.cons_append]
  apply wpS_seq
  refine wpS_recover (v := .iface 112 (.agg #[.int .i64 kd, .int .i64 ce, .int .u64 aa, .int .u64 ab, .slice da dl dc, .slice wa wl wc])) (cs' := { c₀ with mode := .panicking ({ needEntry (.agg #[.int .i64 kd, .int .i64 ce, .int .u64 aa, .int .u64 ab, .slice da dl dc, .slice wa wl wc]) with recovered := true } :: u) } :: cs) ?hw ?hrun ?hrec ?hgo
  case hw => simp [go_sem]
  case hrun => simp [go_sem]
  case hrec => exact .inl (by simp [recoverD, hu, needEntry])
  case hgo =>
    clear hu
    go_wp2
    refine (show Code.wpS _ _ _ _ _ _ from wpS_of_wp ?_)
    go_wp2
    refine ⟨rfl, _, rfl, .tuple #[], by simp [results, Tryd.results59], rfl, rfl, ?_, ?_, ?_, ?_⟩
    · exact (((((((((((((Same.refl _ w).set (.inl (by simp))).set (.inl (by simp))).set (.inl (by simp))).set (.inl (by simp))).set (.inl (by simp))).set (.inl (by simp))).set (.inl (by simp))).set (.inl (by simp))).set (.inl (by simp))).set (.inl (by simp))).set (.inl (by simp))).set (.inl (by simp))).alloc _
    · refine block_old ?_
      rw [block_set_other k2, block_set_other k1, block_set_other k1, block_set_other k1, block_set_other k1, block_set_other k1]
      exact block_set (block_set (block_set (block_set (block_set (block_set Ha.out)))))
    · refine block_old ?_
      rw [block_set_other k3]
      refine block_set (block_set (block_set (block_set (block_set (c := outZero) ?_))))
      rw [block_set_other m1, block_set_other m1, block_set_other m1, block_set_other m1, block_set_other m1, block_set_other m1]
      exact Ho.out
    · refine block_old (block_set (c := #[.bool false]) ?_)
      rw [block_set_other m3, block_set_other m3, block_set_other m3, block_set_other m3, block_set_other m3, block_set_other m2, block_set_other m2, block_set_other m2, block_set_other m2, block_set_other m2, block_set_other m2]
      exact Hd.out

theorem postD_gen {P : Program} {fn : Func} {R : Ending → World → Prop} {e : Exit} {a : Act} {w : World} (h : ∀ W, W = w → bodyPostD P fn R e a W) : bodyPostD P fn R e a w := h w rfl

/-- The same, where the program came back. -/
theorem runIdle {p q r : Value} {w : World} :
    CallsD Tryd.prog 59 #[p, q, r] .returning w fun e u' w' => e = .returned (.tuple #[]) ∧ u' = .returning ∧ Same [] w w' := by
  refine callsD_of_wpS Tryd.func59 rfl fun c₀ cs hu => ?_
  simp only [Tryd.ntmps59, List.size_toArray, List.length_cons, List.length_nil, Nat.reduceAdd, Nat.reduceSub, Array.replicate_succ,
     Array.replicate_zero, List.push_toArray, List.append_toArray, List.nil_append, List.cons_append]
  apply wpS_seq
  refine wpS_recover (v := .nilIface) (cs' := c₀ :: cs) ?hw ?hrun ?hrec ?hgo
  case hw => simp [go_sem]
  case hrun => simp [go_sem]
  case hrec => exact .inr ⟨by simp [recoverD, hu], rfl, rfl⟩
  case hgo =>
    go_wp2
    refine (show Code.wpS _ _ _ _ _ _ from wpS_of_wp ?_)
    go_wp2
    refine ⟨rfl, .returning, ?_, .tuple #[], by simp [results, Tryd.results59], rfl, rfl, (Same.refl _ w).alloc _⟩
    cases c₀; simp only at hu; subst hu; rfl

theorem Run_any {M0 : List Nat} {w : World} {pf : FuncId} {caps : Array Value} {logv : Value} {log : List Res} {P : Prog OutM} {K : OutM → Nat → Prop} {S : Acc → Nat → Prop} {Q : Ending → World → Prop}
    (henter : ∀ args w, (callFunc pf args).run Tryd.prog w = .ok (.enter pf args) w)
    (hp : ∀ (d : DoSem) (M : List Nat) (s : d.σ) (w' : World) (K : OutM → d.σ → Prop) (S : Acc → d.σ → Prop) (Q : Ending → World → Prop), Same [] w w' → (∀ k, k ∈ M → k ∈ M0 ∨ w.heap.size ≤ k) → d.Inv M s w' → d.wp P s K S →
      (∀ o s' w'' ov, Same d.D w' w'' → d.Inv M s' w'' → ROut M w'' ov o → K o s' → Q (.returned ov) w'') → d.Stops d.D M w' S Q → Calls Tryd.prog pf (#[d.val] ++ caps) w' Q)
    (hh : Halves w) (h0 : 0 ∉ M0) (hM0 : ∀ k, k ∈ M0 → k < w.heap.size) (hlog : RLog M0 w logv log) (h : P.wp (logStep log) 0 K S)
    (hok : ∀ o s w' ov, Same [] w w' → ROut M0 w' ov o → K o s → Q (.returned (.tuple #[.agg accZero, ov, .bool true])) w')
    (hstop : ∀ a s w' av, Same [] w w' → RAcc M0 w' av a → S a s → Q (.returned (.tuple #[av, .agg outZero, .bool false])) w') :
    Calls Tryd.prog 46 #[.func (.func pf) #[] caps, logv] w Q := by
  have hmf : ∀ (fn : Fn) (first cap : Array Value) (w : World), (Instr.makeFunc fn first cap).run Tryd.prog w = .ok (.func fn first cap) w := fun _ _ _ _ => rfl
  obtain ⟨la, lc, rfl, hmax⟩ := hlog.form
  have Hlog := hid hlog; have Hp := hid hp; have H := hid h; have Hok := hid hok; have Hstop := hid hstop; have Hh := hid hh
  clear hlog hp h hok hstop hh
  go_enter_defers Tryd.func46, Tryd.ntmps46
  go_wp2_with fail
  refine calls_gen fun W hW => ?_
  have hsame : Same [] w W := by rw [hW]; exact (((((Same.refl _ w).alloc _).alloc _).alloc _).alloc _).alloc _
  have b0 : W.heap[w.heap.size]? = some (.cells #[.slice la log.length lc] 71 (0, 0)) := by rw [hW]; exact block_old (block_old (block_old (block_old (block_new _ _))))
  have b1 : W.heap[w.heap.size + 1]? = some (.cells accZero 73 (0, 0)) := by rw [hW]; exact block_old (block_old (block_old (block_at (by simp))))
  have b2 : W.heap[w.heap.size + 1 + 1]? = some (.cells outZero 38 (0, 0)) := by rw [hW]; exact block_old (block_old (block_at (by simp)))
  have b3 : W.heap[w.heap.size + 1 + 1 + 1]? = some (.cells #[.bool false] 4 (0, 0)) := by rw [hW]; exact block_old (block_at (by simp))
  have b4 : W.heap[w.heap.size + 1 + 1 + 1 + 1]? = some (.cells #[.int .i64 0] 3 (0, 0)) := by rw [hW]; exact block_at (by simp)
  have hsz : W.heap.size = w.heap.size + 1 + 1 + 1 + 1 + 1 := by rw [hW]; simp
  have hH : Halves W := Hh.out.same hsame (by simp)
  obtain ⟨MM, hMM⟩ : ∃ MM, MM = (w.heap.size + 1 + 1 + 1 + 1) :: (w.heap.size + 1) :: (w.heap.size + 1 + 1) :: (w.heap.size + 1 + 1 + 1) :: M0 := ⟨_, rfl⟩
  have hmem : ∀ x, x ∈ MM ↔ x = w.heap.size + 1 + 1 + 1 + 1 ∨ x = w.heap.size + 1 ∨ x = w.heap.size + 1 + 1 ∨ x = w.heap.size + 1 + 1 + 1 ∨ x ∈ M0 := fun x => by rw [hMM]; simp
  clear hMM
  have HM0 := hM0
  have hRL : RLog MM W (.slice la log.length lc) log :=
    (Hlog.out.grow (M' := MM) (fun x hx => by rcases (hmem x).1 hx with h | h | h | h | h <;> first | exact .inl h | (right; omega))).same hsame (by simp)
  have hlt := Hh.out.lt
  clear hW
  refine Hp.out (logDo (w.heap.size + 1 + 1 + 1 + 1) w.heap.size (.slice la log.length lc) log) MM (show Nat from 0) W K S _ hsame (fun k hk => by rcases (hmem k).1 hk with h | h | h | h | h <;> first | exact .inl h | (right; omega))
    ⟨fun k hk => by rcases (hmem k).1 hk with h | h | h | h | h <;> first | omega | (have := HM0 k h; omega), hH, fun hm => by rcases (hmem _).1 hm with h | h | h | h | h <;> first | omega | exact h0 h, (hmem _).2 (.inl rfl), b4, fun hm => by (rcases (hmem _).1 hm with h | h | h | h | h <;> first | omega | (have := HM0 _ h; omega)), b0, hRL, Nat.zero_le _⟩ H.out ?_ ?_
  · intro o s' w'' ov hs hI ho hK
    obtain ⟨lv, rfl, hl, hw⟩ := ho
    obtain ⟨oa, ol, oc, rfl⟩ := hl.form
    have c1 := (hs.block _ (lt_of_some b1) (by simp [logDo])).trans b1
    have c2 := (hs.block _ (lt_of_some b2) (by simp [logDo])).trans b2
    have c3 := (hs.block _ (lt_of_some b3) (by simp [logDo])).trans b3
    clear b0 b1 b2 b3 b4
    have f1 : ∀ o, w''.frozen? ⟨w.heap.size + 1, o, none⟩ = false := fun o => frozen_of_block c1
    have f2 : ∀ o, w''.frozen? ⟨w.heap.size + 1 + 1, o, none⟩ = false := fun o => frozen_of_block c2
    have f3 : ∀ o, w''.frozen? ⟨w.heap.size + 1 + 1 + 1, o, none⟩ = false := fun o => frozen_of_block c3
    obtain ⟨a0, a1, a2, a3, a4, a5⟩ := cells6 c1
    obtain ⟨o0, o1, o2, o3, o4⟩ := cells5 c2
    have e0 : w''.cell? ⟨w.heap.size + 1 + 1 + 1, 0, none⟩ = some (.bool false) := cell_of_block c3 rfl
    have HK := hid hK; have Hl := hid hl; have Hs := hid hs; have HI := hid hI; have C1 := hid c1; have C2 := hid c2; have C3 := hid c3
    have Hsame := hid hsame; clear hK hl hs hI c1 c2 c3 hsame hH hRL hlt hsz henter
    go_wp2_with fail
    refine wp_gen fun W2 hW2 => ?_
    have s2 : Same [w.heap.size + 1 + 1] w'' W2 := by rw [hW2]; exact (((((Same.refl _ w'').set (.inl (by simp))).set (.inl (by simp))).set (.inl (by simp))).set (.inl (by simp))).set (.inl (by simp))
    have d2 : W2.heap[w.heap.size + 1 + 1]? = some (.cells #[.int .i64 o.err, .bool o.is, .int .i64 o.n, .int .u64 o.w, .slice oa ol oc] 38 (0, 0)) := by
      rw [hW2]; exact block_set (block_set (block_set (block_set (block_set (c := outZero) C2.out))))
    have d1 : W2.heap[w.heap.size + 1]? = some (.cells accZero 73 (0, 0)) := (s2.block _ (lt_of_some C1.out) (by simp)).trans C1.out
    have d3 : W2.heap[w.heap.size + 1 + 1 + 1]? = some (.cells #[.bool false] 4 (0, 0)) := (s2.block _ (lt_of_some C3.out) (by simp)).trans C3.out
    clear hW2 f1 f2 f3 a0 a1 a2 a3 a4 a5 o0 o1 o2 o3 o4 e0
    have f1 : ∀ o, W2.frozen? ⟨w.heap.size + 1, o, none⟩ = false := fun o => frozen_of_block d1
    have f2 : ∀ o, W2.frozen? ⟨w.heap.size + 1 + 1, o, none⟩ = false := fun o => frozen_of_block d2
    have f3 : ∀ o, W2.frozen? ⟨w.heap.size + 1 + 1 + 1, o, none⟩ = false := fun o => frozen_of_block d3
    obtain ⟨o0, o1, o2, o3, o4⟩ := cells5 d2
    obtain ⟨a0, a1, a2, a3, a4, a5⟩ := cells6 d1
    have e0 : W2.cell? ⟨w.heap.size + 1 + 1 + 1, 0, none⟩ = some (.bool false) := cell_of_block d3 rfl
    have S2 := hid s2; have D1 := hid d1; have D2 := hid d2; have D3 := hid d3
    clear s2 d1 d2 d3
    go_region
    go_wp2_with fail
    refine postD_gen fun W3 hW3 => ?_
    have k12 : ¬ w.heap.size + 1 = w.heap.size + 1 + 1 := by omega
    have k13 : ¬ w.heap.size + 1 = w.heap.size + 1 + 1 + 1 := by omega
    have k23 : ¬ w.heap.size + 1 + 1 = w.heap.size + 1 + 1 + 1 := by omega
    have k21 : ¬ w.heap.size + 1 + 1 = w.heap.size + 1 := by omega
    have k31 : ¬ w.heap.size + 1 + 1 + 1 = w.heap.size + 1 := by omega
    have k32 : ¬ w.heap.size + 1 + 1 + 1 = w.heap.size + 1 + 1 := by omega
    have s3 : Same [w.heap.size + 1, w.heap.size + 1 + 1, w.heap.size + 1 + 1 + 1] W2 W3 := by
      rw [hW3]; exact (((((((((((((Same.refl _ W2).set (.inl (by simp))).set (.inl (by simp))).set (.inl (by simp))).set (.inl (by simp))).set (.inl (by simp))).set (.inl (by simp))).set (.inl (by simp))).set (.inl (by simp))).set (.inl (by simp))).set (.inl (by simp))).set (.inl (by simp))).set (.inl (by simp))).drew
    have d1 : W3.heap[w.heap.size + 1]? = some (.cells accZero 73 (0, 0)) := by
      rw [hW3, show ∀ x : World, x.drew.heap = x.heap from fun _ => rfl, block_set_other k13, block_set_other k12, block_set_other k12, block_set_other k12, block_set_other k12, block_set_other k12]
      exact block_set (block_set (block_set (block_set (block_set (block_set (c := accZero) D1.out)))))
    have d2 : W3.heap[w.heap.size + 1 + 1]? = some (.cells #[.int .i64 o.err, .bool o.is, .int .i64 o.n, .int .u64 o.w, .slice oa ol oc] 38 (0, 0)) := by
      rw [hW3, show ∀ x : World, x.drew.heap = x.heap from fun _ => rfl, block_set_other k23]
      refine block_set (block_set (block_set (block_set (block_set (c := #[.int .i64 o.err, .bool o.is, .int .i64 o.n, .int .u64 o.w, .slice oa ol oc]) ?_))))
      rw [block_set_other k21, block_set_other k21, block_set_other k21, block_set_other k21, block_set_other k21, block_set_other k21]
      exact D2.out
    have d3 : W3.heap[w.heap.size + 1 + 1 + 1]? = some (.cells #[.bool true] 4 (0, 0)) := by
      rw [hW3, show ∀ x : World, x.drew.heap = x.heap from fun _ => rfl]
      refine block_set (c := #[.bool false]) ?_
      rw [block_set_other k32, block_set_other k32, block_set_other k32, block_set_other k32, block_set_other k32, block_set_other k31, block_set_other k31, block_set_other k31, block_set_other k31, block_set_other k31, block_set_other k31]
      exact D3.out
    clear hW3 f1 f2 f3 o0 o1 o2 o3 o4 a0 a1 a2 a3 a4 a5 e0
    refine leaves_cons (f := 59) (args := #[.pointer (some ⟨w.heap.size + 1, 0, none⟩), .pointer (some ⟨w.heap.size + 1 + 1, 0, none⟩), .pointer (some ⟨w.heap.size + 1 + 1 + 1, 0, none⟩)]) (by simp) (by simp [go_sem]) ?_
    refine runIdle.mono ?_
    rintro e u' W4 ⟨rfl, rfl, s4⟩
    have d1 := (s4.block _ (lt_of_some d1) (by simp)).trans d1
    have d2 := (s4.block _ (lt_of_some d2) (by simp)).trans d2
    have d3 := (s4.block _ (lt_of_some d3) (by simp)).trans d3
    obtain ⟨a0, a1, a2, a3, a4, a5⟩ := cells6 d1
    obtain ⟨o0, o1, o2, o3, o4⟩ := cells5 d2
    have e0 : W4.cell? ⟨w.heap.size + 1 + 1 + 1, 0, none⟩ = some (.bool true) := cell_of_block d3 rfl
    simp [Leaves, settle, results, Tryd.results46, go_sem, a0, a1, a2, a3, a4, a5, o0, o1, o2, o3, o4, e0]
    have s24 : Same [w.heap.size + 1, w.heap.size + 1 + 1, w.heap.size + 1 + 1 + 1] w'' W4 :=
      (S2.out.mono (D' := [w.heap.size + 1, w.heap.size + 1 + 1, w.heap.size + 1 + 1 + 1]) (fun x hx => .inl (by simp at hx; simp [hx]))).trans (s3.trans s4 (by simp)) (fun x hx => .inl hx)
    have hall : Same [] w W4 := (Hsame.out.trans ((Hs.out.mono (D' := [w.heap.size + 1, w.heap.size + 1 + 1, w.heap.size + 1 + 1 + 1, w.heap.size + 1 + 1 + 1 + 1]) (fun x hx => .inl (by simp [logDo] at hx; simp [hx]))).trans s24 (fun x hx => .inl (by simp at hx; simp; omega))) (fun x hx => .inr (by simp at hx; omega)))
    refine Hok.out o s' W4 _ hall ⟨_, rfl, ?_, hw⟩ HK.out
    exact (Hl.out.same s24 (fun x hx => (hmem x).2 (by simp at hx; rcases hx with h | h | h <;> simp [h]))).grow (fun x hx => .inl ((hmem x).2 (by simp [hx])))
  · intro a s' w'' av hs hI ha hS
    have c1 := (hs.block _ (lt_of_some b1) (by simp [logDo])).trans b1
    have c2 := (hs.block _ (lt_of_some b2) (by simp [logDo])).trans b2
    have c3 := (hs.block _ (lt_of_some b3) (by simp [logDo])).trans b3
    clear b0 b1 b2 b3 b4
    obtain ⟨dv, wv, rfl, hdv, hwv, hr⟩ := ha
    obtain ⟨da, dl, dc, rfl⟩ := hdv.form
    obtain ⟨wa, wl, wc, rfl⟩ := hwv.form
    refine leaves_cons (f := 59) (args := #[.pointer (some ⟨w.heap.size + 1, 0, none⟩), .pointer (some ⟨w.heap.size + 1 + 1, 0, none⟩), .pointer (some ⟨w.heap.size + 1 + 1 + 1, 0, none⟩)]) (by simp) (by simp [go_sem]) ?_
    refine (runCatch c1 c2 c3 (by omega) (by omega) (by omega)).mono ?_
    rintro e u' w3 ⟨rfl, rfl, hs3, d1, d2, d3⟩
    obtain ⟨a0, a1, a2, a3, a4, a5⟩ := cells6 d1
    obtain ⟨o0, o1, o2, o3, o4⟩ := cells5 d2
    have e0 : w3.cell? ⟨w.heap.size + 1 + 1 + 1, 0, none⟩ = some (.bool false) := cell_of_block d3 rfl
    simp [Leaves, settle, results, Tryd.results46, go_sem, a0, a1, a2, a3, a4, a5, o0, o1, o2, o3, o4, e0]
    have hs' : Same [w.heap.size + 1, w.heap.size + 1 + 1, w.heap.size + 1 + 1 + 1, w.heap.size + 1 + 1 + 1 + 1] W w3 := (hs.mono (fun x hx => .inl (by simp [logDo] at hx; simp [hx]))).trans hs3 (fun x hx => .inl (by simp at hx; simp; omega))
    have hall : Same [] w w3 := hsame.trans hs' (fun x hx => .inr (by simp at hx; omega))
    have hmm : ∀ x, x ∈ [w.heap.size + 1, w.heap.size + 1 + 1, w.heap.size + 1 + 1 + 1] → x ∈ MM := fun x hx => (hmem x).2 (by simp at hx; rcases hx with h | h | h <;> simp [h])
    have hm0 : ∀ x, x ∈ M0 → x ∈ MM ∨ w3.heap.size ≤ x := fun x hx => .inl ((hmem x).2 (by simp [hx]))
    refine Hstop.out a s' w3 _ hall ⟨_, _, rfl, (hdv.same hs3 hmm).grow hm0, (hwv.same hs3 hmm).grow hm0, hr⟩ hS
end Go.Proofs.YtdfeinfaljidgaaDoor
