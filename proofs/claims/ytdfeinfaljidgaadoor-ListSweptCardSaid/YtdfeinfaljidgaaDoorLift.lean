/- From a walk to a row: what the listed variable gives; arguments that read behind the call as they did before. -/
import Derived.Test.YtdfeinfaljidgaaDoorRows
import Derived.Test.YtdfeinfaljidgaaDoorArgs
import Derived.Test.YtdfeinfaljidgaaDoorAlone
import Derived.Carry
import Derived.ProofKit
import Derived.OpenShut
import Derived.Deep.DeepHandedRow
import Derived.Deep.Grids
import Derived.Lib.LaidTab
namespace Go.Proofs.YtdfeinfaljidgaaDoor
open Go Go.RowKit Go.ChangeShapes Go.WideShapes Go.ChangeAt

theorem kOwn : ownKnob Tryd.prog.godebug = none := by kernel_rfl
theorem kLaid : laidOutB Tryd.prog = true := by kernel_rfl
theorem gHalves : Tryd.prog.globalNamed "weald/crc.halves" = some 0 := by kernel_rfl
theorem gHalvesType : (Tryd.prog.globals[0]?).map (·.type) = some 161 := by kernel_rfl
theorem cellsHalves : Tryd.prog.cellsOf 161 = 16 := by kernel_rfl
theorem cellsU32 : Tryd.prog.cellsOf 155 = 1 := by kernel_rfl
theorem und_halves : Tryd.prog.underlying 161 = some (.array 16 155) := by kernel_rfl
theorem und_u32 : Tryd.prog.underlying 155 = some (.int .u32) := by kernel_rfl
theorem und_u8 : Tryd.prog.underlying 5 = some (.int .u8) := by kernel_rfl
theorem und_boolT : Tryd.prog.underlying 4 = some .bool := by kernel_rfl
theorem cells_u8 : Tryd.prog.cellsOf 5 = 1 := by kernel_rfl
theorem cells_bool : Tryd.prog.cellsOf 4 = 1 := by kernel_rfl

/-- What the row's list gives. -/
theorem halves_of_laid {W : World} (h : laidMetH Tryd.prog [("weald/crc.halves", Rows.laid_weald_crc_halves)] W) : Halves W := by
  have ht : Lib.TabIs Tryd.prog W "weald/crc.halves" .u32 (halvesL.map fun n : Nat => (n : Int)) :=
    Lib.tabIs_of_head (rest := []) gHalves gHalvesType und_halves und_u32 cellsU32 cellsHalves h
  unfold Lib.TabIs World.var? at ht
  rw [gHalves] at ht
  simp only [Option.bind_some] at ht
  cases hw : W.heap[0]? with
  | none => rw [hw] at ht; cases ht
  | some o =>
    rw [hw] at ht
    cases o with
    | cells cs e fr =>
      simp only [Option.some.injEq] at ht
      subst ht
      exact ⟨e, fr, by rw [hw, List.map_map]; rfl⟩
    | _ => cases ht

/-- Arguments that read behind the call as they did before. -/
theorem below_all {H : Type} {enc : TypeId × Value → H} {W W' : World} (hb : Below W.heap.size W W') :
    ∀ {ts : List TypeId} {vs : List Value} {ds : List (DataW H)} {ps : List MemPlace}, (∀ t, t ∈ ts → Tryd.prog.readableRec t = true ∧ t < Tryd.prog.types.size) → (∀ x, x ∈ ps → x.block < W.heap.size) →
      DataW.TrodAll enc Tryd.prog W 0 (fun _ => true) true ts vs ds ps → DataW.TrodAll enc Tryd.prog W' 0 (fun b => decide (b < W.heap.size)) true ts vs ds ps
  | [], [], [], _, _, _, h => h
  | [], [], _ :: _, _, _, _, h => h.elim
  | [], _ :: _, _, _, _, _, h => h.elim
  | _ :: _, [], _, _, _, _, h => h.elim
  | _ :: _, _ :: _, [], _, _, _, h => h.elim
  | t :: ts, v :: vs, d :: ds, ps, ht, hp, h => by
    obtain ⟨p, p', h1, h2, rfl⟩ := h
    exact ⟨p, p', Below.trod kLaid (ht t (by simp)).1 (ht t (by simp)).2 h1 hb (fun x hx => hp x (by simp [hx])), below_all hb (fun t' h' => ht t' (by simp [h'])) (fun x hx => hp x (by simp [hx])) h2, rfl⟩

set_option maxRecDepth 100000 in
/-- What a law that answers true owes. -/
theorem true_post {H : Type} {enc : TypeId × Value → H} {f : Func} {s : ChangeSpec} {W W' : World} {args : Array Value} {ds gs : List (DataW H)} {before : List MemPlace}
    (hrt : f.resultTypes = #[4]) (hvars : s.vars = []) (hW : DataW.Whole enc Tryd.prog f.params.toList s.vars false W args.toList ds gs before)
    (ht : ∀ t, t ∈ f.params.toList → Tryd.prog.readableRec t = true ∧ t < Tryd.prog.types.size) (hs : s.fn H (ds ++ gs) = { results := [.lit (.bool true)], args := ds }) (hsame : Same [] W W') :
    s.post enc Tryd.prog f false true false false W args (.bool true) W' := by
  have hW' := hW
  obtain ⟨p, q, hA, hV, rfl, _, _⟩ := hW
  rw [hvars] at hV
  obtain ⟨rfl, rfl⟩ : gs = [] ∧ q = [] := by
    cases gs with
    | nil => exact ⟨rfl, hV⟩
    | cons g r => exact absurd hV (by intro h; cases h)
  have hlt : ∀ x, x ∈ p → x.block < W.heap.size := fun x hx => by simpa using hW'.lt x (by simp [hx])
  refine ⟨ds, [], _, [], p, [], hW', ?_, ?_, ?_, Below.frame hsame.below _, fun h => by cases h⟩
  · rw [hs, hrt]
    exact trodAll_mk1 (shut_bool und_boolT true)
  · rw [hs]
    exact below_all hsame.below ht hlt hA
  · rw [hs, hvars]
    exact rfl

/-! ### Slices that come in -/
set_option maxRecDepth 100000 in
theorem has_of_slice {W : World} {t e : TypeId} {a : Addr} {l c base : Nat} (ht : Tryd.prog.underlying t = some (.slice e)) (h : Value.okWide Tryd.prog W .any base t (.slice (some a) l c)) : a.spot = none ∧ ∃ cs e' fr, W.heap[a.block]? = some (.cells cs e' fr) := by
  unfold Value.okWide at h
  rw [ht] at h
  simp only [Cell.okWide, ht, Cell.ok] at h
  obtain ⟨_, _, _, hs, row, n, hsh, _⟩ := h
  refine ⟨hs, ?_⟩
  unfold World.shape? at hsh
  cases hh : W.heap[a.block]? with
  | none => rw [hh] at hsh; cases hsh
  | some o =>
    cases o with
    | cells cs e' fr => exact ⟨cs, e', fr, rfl⟩
    | _ => rw [hh] at hsh; cases hsh
set_option maxRecDepth 100000 in
theorem slice_form {W : World} {t e : TypeId} {v : Value} {base : Nat} (ht : Tryd.prog.underlying t = some (.slice e)) (h : Value.okWide Tryd.prog W .any base t v) : v = .slice none 0 0 ∨ ∃ a l c, v = .slice (some a) l c := by
  unfold Value.okWide at h
  rw [ht] at h
  simp only [Cell.okWide, ht, Cell.ok] at h
  cases v with
  | slice a l c =>
    cases a with
    | some a => exact .inr ⟨_, _, _, rfl⟩
    | none =>
      cases l with
      | succ l => exact False.elim h
      | zero =>
        cases c with
        | succ c => exact False.elim h
        | zero => exact .inl rfl
  | _ => exact False.elim h
theorem slice_cells {v x : Value} (h : v.cells.toList = [x]) (hv : v = .slice none 0 0 ∨ ∃ a l c, v = .slice (some a) l c) : v = x := by
  rcases hv with rfl | ⟨a, l, c, rfl⟩
  · simpa [Value.cells] using h
  · simpa [Value.cells] using h
set_option maxRecDepth 100000 in
theorem sl_in {W : World} {a : Addr} {len cap : Nat} {cs : List Value} (hs : a.spot = none) (hb : ∃ cs e' fr, W.heap[a.block]? = some (.cells cs e' fr)) (hl : cs.length = len) (hc : len ≤ cap) (h47 : len ≤ 140737488355328) (hcell : ∀ i (h : i < cs.length), W.cell? (a.add i) = some cs[i]) : Sl [] W (.slice (some a) len cap) 1 cs := by
  obtain ⟨b, off, sp⟩ := a
  simp only at hs
  subst hs
  obtain ⟨c, e, fr, hb⟩ := hb
  refine ⟨_, _, _, rfl, by omega, hc, h47, .inr ⟨b, off, rfl, by simp, c, e, fr, hb, fun i hi => ?_⟩⟩
  have := hcell i hi
  rw [Addr.add_lit] at this
  simp only [World.cell?, hb] at this
  rw [List.getElem?_eq_getElem hi]
  simpa using this
def small {H : Type} (d : DataW H) : Prop := ∀ elems spare, d = .slice elems spare → elems.length + spare.length ≤ 140737488355328
set_option maxRecDepth 100000 in
/-- A slice of bytes that came in. -/
theorem bytes_in {H : Type} {enc : TypeId × Value → H} {W : World} {v : Value} {d : DataW H} {p : List MemPlace} {t : TypeId} {base : Nat} (ht : Tryd.prog.underlying t = some (.slice 5)) (h : DataW.Trod enc Tryd.prog W 0 (fun _ => true) true t v d p)
    (hok : Value.okWide Tryd.prog W .any base t v) (hsz : small d) : ∃ bs : List UInt8, Bytes [] W v bs := by
  obtain ⟨fuel, h⟩ := h
  rcases open_ints ht und_u8 cells_u8 h with ⟨h0, _⟩ | ⟨a, len, cap, zs, h0, _, hlc, _, hzl, hx, hcell, hwf⟩
  · obtain rfl : v = .slice none 0 0 := slice_cells h0 (slice_form ht hok)
    exact ⟨[], Bytes.nil _ _⟩
  · obtain rfl : v = .slice (some a) len cap := slice_cells h0 (slice_form ht hok)
    simp only [Prod.mk.injEq] at hx
    have hw := hsz _ _ hx.1
    simp only [if_true] at hzl
    have hzt : (zs.take len).length = len := by rw [List.length_take]; omega
    simp only [lits, List.length_map, hzt] at hw
    obtain ⟨h1, h2⟩ := has_of_slice ht hok
    refine ⟨(zs.take len).map fun z => UInt8.ofNat z.toNat, sl_in h1 h2 (by rw [List.length_map, List.length_map, hzt]) hlc (by omega) fun i hi => ?_⟩
    simp only [List.length_map, hzt] at hi
    have hi' : i < zs.length := by omega
    rw [hcell i hi']
    have hz := bounds_u8 (hwf zs[i] (List.getElem_mem hi'))
    simp only [List.getElem_map, List.getElem_take]
    rw [List.getD_eq_getElem?_getD, List.getElem?_eq_getElem hi', Option.getD_some]
    have : (UInt8.ofNat zs[i].toNat).toNat = zs[i].toNat := by rw [UInt8.toNat_ofNat']; omega
    rw [this]
    congr 2
    omega
set_option maxRecDepth 100000 in
theorem bools_in {H : Type} {enc : TypeId × Value → H} {W : World} {v : Value} {d : DataW H} {p : List MemPlace} {t : TypeId} {base : Nat} (ht : Tryd.prog.underlying t = some (.slice 4)) (h : DataW.Trod enc Tryd.prog W 0 (fun _ => true) true t v d p)
    (hok : Value.okWide Tryd.prog W .any base t v) (hsz : small d) : ∃ bs : List Bool, Bools [] W v bs := by
  obtain ⟨fuel, h⟩ := h
  rcases Deep.open_bools ht und_boolT cells_bool h with ⟨h0, _⟩ | ⟨a, len, cap, B, h0, _, hlc, _, hx, hcell⟩
  · obtain rfl : v = .slice none 0 0 := slice_cells h0 (slice_form ht hok)
    exact ⟨[], Sl.nil _ _ _⟩
  · obtain rfl : v = .slice (some a) len cap := slice_cells h0 (slice_form ht hok)
    simp only [Prod.mk.injEq] at hx
    have hw := hsz _ _ hx.1
    simp only [List.length_map, List.length_range] at hw
    obtain ⟨h1, h2⟩ := has_of_slice ht hok
    refine ⟨(List.range len).map B, sl_in h1 h2 (by simp) hlc (by omega) fun i hi => ?_⟩
    simp only [List.length_map, List.length_range] at hi
    rw [hcell i (by omega)]
    simp
set_option maxRecDepth 100000 in
/-- What the form's reach says of an argument that is a slice of small elements. -/
theorem small_of {H : Type} {ts : List TypeId} {ds : List (DataW H)} (h : (DataW.weightsEach Tryd.prog ts ds).all (· ≤ reachBytes) = true) {j : Nat} {t e : TypeId} {d : DataW H} (hj : ts[j]? = some t) (hd : ds[j]? = some d) (hu : Tryd.prog.underlying t = some (.slice e)) (hb : 1 ≤ Tryd.prog.bytesOf e) : small d := by
  intro elems spare he
  subst he
  have h1 := sized_slice h hj hd hu
  have h2 := reachBytes_lt
  have h3 : (elems.length + spare.length) * 1 ≤ (elems.length + spare.length) * Tryd.prog.bytesOf e := Nat.mul_le_mul_left _ hb
  omega
end Go.Proofs.YtdfeinfaljidgaaDoor
