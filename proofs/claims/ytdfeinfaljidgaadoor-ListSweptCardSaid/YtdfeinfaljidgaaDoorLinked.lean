/- The contracts of the document's Linked and Sorted: what a memory's list is. -/
import Derived.Test.YtdfeinfaljidgaaDoorPoke
import Derived.Test.YtdfeinfaljidgaaDoorLists2
import Derived.Deep.LoopGhost
import Derived.Deep.RegionHeld2
namespace Go.Proofs.YtdfeinfaljidgaaDoor
open Go Go.RowKit

@[go_sem] theorem und_intsT : Tryd.prog.underlying 35 = some (.slice 3) := by kernel_rfl
theorem info_intsT : (Tryd.prog.info? 3).map (fun i => (i.zero, i.size, i.bytes)) = some (some (.int .i64 0), 1, 8) := by kernel_rfl
def i64L (xs : List Int) : List Value := xs.map fun n : Int => Value.int .i64 n

theorem wpList_app_int {w : World} {ops : Array Oper} {rest : List Oper} {o : Oper} {ac : Act} {Q : Exit → Act → World → Prop} (hgd : o.guard = none) (so xo : Operand)
    (ho : o.op = .call { callee := .builtin .append, args := #[so, xo], argTypes := #[35, 35] }) (base : Nat) (v : Value) (n : Nat) (xs : List Int) (hs : ac.eval so = v) (hown : w.ownsRow base 3 1 v n (i64L xs))
    (b c : Nat) (u : Int) (hx : ac.eval xo = .slice (some ⟨b, 0, none⟩) 1 c) (hc : w.cell? ⟨b, 0, none⟩ = some (.int .i64 u)) (hn : n ≤ 1000000) (hbase : base ≤ w.heap.size)
    (h : ∀ v' w', w'.ownsRow base 3 1 v' (n + 1) (i64L (xs ++ [u])) → Same (ownL v) w w' → (ownL v' = ownL v ∨ ownL v' = [w.heap.size]) → wpList Tryd.prog ops Q rest (ac.put o.dst v') w') : wpList Tryd.prog ops Q (o :: rest) ac w := by
  obtain ⟨i, hi, hz0, hz1, hz2⟩ := info_parts info_intsT
  refine wpList_app_own hgd so xo 35 ho base 3 i _ 1 8 und_intsT hi hz0 hz1 hz2 rfl (by decide) v n (i64L xs) hs hown ⟨b, 0, none⟩ 1 c [.int .i64 u] hx (by decide) rfl ?_ (by simp [Value.oneCell']) (by omega) (by omega) hbase ?_
  · intro j u' hj
    rw [Addr.add_lit, Nat.zero_add]
    match j with
    | 0 => simp at hj; subst hj; simpa using hc
    | j + 1 => simp at hj
  · intro v' w' h1 h2 h3
    exact h v' w' (by simpa [i64L] using h1) h2 h3
theorem own_ints {M : List Nat} {w : World} {base : Nat} {v : Value} {n : Nat} {xs : List Int} (h : w.ownsRow base 3 1 v n (i64L xs)) (hn : n ≤ 1000000) (hM : ∀ k, k ∈ M → k < base) : Ints M w v xs := own_sl h (by omega) hM

theorem hdD_drop {L : List Node} {j : Nat} {a : Node} (h : L[j]? = some a) : hdD 0 (L.drop j) = a.1 := by
  obtain ⟨h1, h2⟩ := List.getElem?_eq_some_iff.1 h
  rw [List.drop_eq_getElem_cons h1, h2]; rfl
theorem hdD_drop_end {L : List Node} {j : Nat} (h : L.length ≤ j) : hdD 0 (L.drop j) = 0 := by rw [List.drop_eq_nil_of_le h]; rfl
theorem Lst.at_drop {t C : Nat} {x : WorldM} {L : List Node} (h : Lst t C x L) {j : Nat} {a : Node} (ha : L[j]? = some a) : x.get (field t a.1 0) = Go.Proofs.YtdfeinfaljidgaaDoor.link (hdD 0 (L.drop (j + 1))) a.2 := by
  obtain ⟨h1, h2⟩ := List.getElem?_eq_some_iff.1 ha
  have e : L = L.take j ++ a :: L.drop (j + 1) := by rw [← h2, ← List.drop_eq_getElem_cons h1, List.take_append_drop]
  have h' := h
  rw [e] at h'
  exact h'.at
/-- The records of a list. -/
def recs (L : List Node) : List Int := L.map fun a => (a.1 : Int)

set_option maxRecDepth 100000 in
theorem Linked_any {M : List Nat} {w : World} {t C : Nat} {ma : Option Addr} {ml mc : Nat} {x : WorldM} {L : List Node} (hu : U64s M w (.slice ma ml mc) x.mem.word) (hL : Lst t C x L) (hM : ∀ k, k ∈ M → k < w.heap.size) :
    Calls Tryd.prog 11 #[.agg #[.int .i64 t, .int .i64 C, .slice ma ml mc]] w fun e w' => ∃ v, e = .returned v ∧ Same [] w w' ∧ Ints M w' v (recs L) := by
  have hml : ml = 8 + t + 8 * C := by
    obtain ⟨a', l', c', e, h1, _⟩ := hu.sl
    simp only [Value.slice.injEq] at e
    obtain ⟨_, rfl, _⟩ := e
    have := hL.dim.len
    unfold WorldM.len at this
    simp at h1; omega
  subst hml
  obtain ⟨b, off, rfl⟩ : ∃ b off, ma = some ⟨b, off, none⟩ := by
    obtain ⟨a', l', c', e, h1, _, _, h4⟩ := hu.sl
    simp only [Value.slice.injEq] at e
    obtain ⟨rfl, rfl, rfl⟩ := e
    rcases h4 with ⟨_, h4, _⟩ | ⟨b, off, rfl, _⟩
    · omega
    · exact ⟨b, off, rfl⟩
  have hlenL := hL.length_le
  have htT := hL.dim.T
  have hcC := hL.dim.C
  have hcell : ∀ W, Same [] w W → ∀ i, i < 8 + t + 8 * C → W.cell? ⟨b, off + i, none⟩ = some (.int .u64 (x.get i : Nat)) := fun W hs i hi => by
    have h := Sl.cells_at (hu.sl.same hs (by simp)) i (.int .u64 (x.get i : Nat)) (by
      have := hL.dim.len
      unfold WorldM.len at this
      have hi' : i < x.mem.word.length := by omega
      simp [WorldM.get, hi'])
    rw [Addr.add_lit] at h
    exact h
  have hlt : ∀ i, i < 8 + t + 8 * C → x.get i < W64 := fun i hi => by
    have := hL.dim.len
    unfold WorldM.len at this
    have hi' : i < x.mem.word.length := by omega
    simp only [WorldM.get, List.getD_eq_getElem?_getD, List.getElem?_eq_getElem hi', Option.getD_some]
    exact hu.lt _ (List.getElem_mem hi')
  have HC := hid hcell; have HLT := hid hlt; have HU := hid hu; have HL := hid hL; have HM := hid hM; have HLEN := hid hlenL
  have hbw : b < w.heap.size := (hu.own b (by simp [ownL_slice])).2
  have q0 := hcell (w.alloc (.cells #[.int .i64 t, .int .i64 C, .slice (some ⟨b, off, none⟩) (8 + t + 8 * C) mc] 26)) ((Same.refl _ _).alloc _) 0 (by omega)
  rw [Nat.add_zero] at q0
  obtain ⟨h0, hh0⟩ : ∃ h0, h0 = x.get 0 := ⟨_, rfl⟩
  have H0 := hid hh0; have HW0 := hid (hlt 0 (by omega))
  have g0 : 0 < 8 + t + 8 * C := by omega
  rw [← hh0] at q0
  clear hcell hlt hu hL hM hlenL hh0
  go_enter Tryd.func11, Tryd.ntmps11
  go_wp2_with fail
  refine (RRef_any (n := h0) (by have := HW0.out; have := H0.out; omega)).mono ?_
  rintro _ _ ⟨rfl, rfl⟩
  go_wp2_with fail
  refine wp_gen fun W hW => ?_
  have hs : Same [] w W := by rw [hW]; exact (Same.refl _ _).alloc _
  have d0 : W.heap[w.heap.size]? = some (.cells #[.int .i64 t, .int .i64 C, .slice (some ⟨b, off, none⟩) (8 + t + 8 * C) mc] 26 (0, 0)) := by rw [hW]; exact block_at rfl
  have hsz : W.heap.size = w.heap.size + 1 := by rw [hW]; simp
  clear hW q0
  have hr0 : ref h0 = hdD 0 (L.drop 0) := by
    rw [H0.out, HL.out.head, List.drop_zero, ref_link]
    have := Lst.hd_le (A := []) HL.out; omega
  have HS := hid hs; have D0 := hid d0; have HR0 := hid hr0; have HSZ := hid hsz
  clear hs d0 hr0 hsz
  go_loopg [3, 4] (L.length + 1) (fun g ov rv wr => ∃ j : Nat, j ≤ L.length ∧ j + g = L.length + 1 ∧ rv = .int .i64 (hdD 0 (L.drop j) : Nat) ∧ wr.ownsRow (w.heap.size + 1) 3 1 ov j (i64L (recs (L.take j))) ∧ Same [] w wr ∧ w.heap.size + 1 ≤ wr.heap.size ∧
    wr.heap[w.heap.size]? = some (.cells #[.int .i64 t, .int .i64 C, .slice (some ⟨b, off, none⟩) (8 + t + 8 * C) mc] 26 (0, 0)))
  case atStart => exact ⟨0, by omega, by omega, by rw [HR0.out], World.ownsRow_nil _ _ _ _, HS.out, by have := HSZ.out; omega, D0.out⟩
  case round =>
    obtain ⟨j, hj, hjg, rfl, hown, hs1, hsz1, hd1⟩ := hrel
    obtain ⟨rr, hrr⟩ : ∃ rr, rr = hdD 0 (L.drop j) := ⟨_, rfl⟩
    rw [← hrr]
    obtain ⟨oa, ol, oc, rfl, hol⟩ : ∃ a l c, u3 = .slice a l c ∧ l = j := by
      rcases hown.2 with ⟨rfl, h0⟩ | ⟨g, cap, cur, rfl, _⟩
      · exact ⟨_, _, _, rfl, h0.symm⟩
      · exact ⟨_, _, _, rfl, rfl⟩
    subst hol
    obtain ⟨x0, x1, x2⟩ := cells3 hd1
    have HOWN := hid hown; have HS1 := hid hs1; have HSZ1 := hid hsz1; have HD1 := hid hd1; have HJ := hid hjg; have HRR := hid hrr
    clear hown hs1 hsz1 hd1 hjg hrr
    by_cases hlt : ol < L.length
    · obtain ⟨a, ha⟩ : ∃ a, L[ol]? = some a := ⟨_, List.getElem?_eq_getElem hlt⟩
      have hra : rr = a.1 := by rw [HRR.out, hdD_drop ha]
      have hmem := HL.out.mem a (List.mem_of_getElem? ha)
      have g1 : 0 < rr := by omega
      have g2 : rr ≤ C := by omega
      have g3 : ol ≤ C := by have := HLEN.out; omega
      have HA := hid ha; have HRA := hid hra
      clear ha hra hmem
      go_wp2_with (at_builtin; refine Still.intro ?_)
      refine Still.of ?_
      refine wpList_app_int rfl (.tmp 25) (.tmp 27) rfl (w.heap.size + 1) _ ol (recs (L.take ol)) rfl (owns_same HOWN.out (fun k hk => ((Same.refl [] wr).alloc _).block k (owns_lt HOWN.out k hk).2 (by simp))) wr.heap.size 1 rr rfl ?_ (by omega) (by have := HSZ1.out; simp; omega) ?_
      · exact cell_of_block (block_at rfl) rfl
      intro v' w' hown' hs' hv'
      have hs2 : Same (ownL (.slice oa ol oc)) wr w' := ((Same.refl _ _).alloc _).trans hs' (fun y hy => .inl hy)
      have hnb : ∀ y, y ∈ ownL (.slice oa ol oc) → w.heap.size + 1 ≤ y := fun y hy => (owns_lt HOWN.out y hy).1
      have hs3 : Same [] w w' := HS1.out.trans hs2 (fun y hy => .inr (by have := hnb y hy; omega))
      have hd2 : w'.heap[w.heap.size]? = some (.cells #[.int .i64 t, .int .i64 C, .slice (some ⟨b, off, none⟩) (8 + t + 8 * C) mc] 26 (0, 0)) := (hs2.block _ (lt_of_some HD1.out) (fun hy => by have := hnb _ hy; omega)).trans HD1.out
      have hsz2 : w.heap.size + 1 ≤ w'.heap.size := by have := hs2.size; have := HSZ1.out; omega
      have hat := HL.out.at_drop HA.out
      rw [← HRA.out] at hat
      have hfl : field t rr 0 < 8 + t + 8 * C := by unfold field; omega
      obtain ⟨nx, hnx⟩ : ∃ nx, nx = x.get (field t rr 0) := ⟨_, rfl⟩
      have q1 := HC.out w' hs3 (field t rr 0) hfl
      rw [← hnx] at q1
      have hi1 : ((field t rr 0 : Nat) : Int) < 8 + (t : Int) + 8 * (C : Int) := by omega
      have hi1' : ((field t rr 0 : Nat) : Int) < ((8 + t + 8 * C : Nat) : Int) := by omega
      have hi0 : (0 : Int) ≤ ((field t rr 0 : Nat) : Int) := by omega
      clear x0 x1 x2
      obtain ⟨x0, x1, x2⟩ := cells3 hd2
      have HOWN' := hid hown'; have HS3 := hid hs3; have HD2 := hid hd2; have HSZ2 := hid hsz2; have HNX := hid (hnx.trans hat); have HNL := hid (show nx < W64 by rw [hnx]; exact HLT.out _ hfl)
      clear hown' hs' hv' hs2 hnb hs3 hd2 hsz2 hat hnx hfl HOWN HS1 HSZ1 HD1
      go_wp2_with fail
      go_quiet (first
        | (go_at_call 10; exact quietC (RField_any (t := t) (r := rr) (f := 0) htT (by omega) (by omega) (by decide)))
        | (go_at_call 27; exact quietC (RRef_any (n := nx) HNL.out)))
      go_wp2_with fail
      go_roundg (gk - 1)
      case measure => have := HJ.out; omega
      case rel =>
        refine ⟨ol + 1, by omega, by have := HJ.out; omega, ?_, ?_, (HS3.out.drewN _), HSZ2.out, HD2.out⟩
        · rw [HNX.out, ref_link]
          have := Lst.hd_le (A := L.take (ol + 1)) (B := L.drop (ol + 1)) (by rw [List.take_append_drop]; exact HL.out)
          omega
        · have e : recs (L.take (ol + 1)) = recs (L.take ol) ++ [(rr : Int)] := by
            obtain ⟨h1, h2⟩ := List.getElem?_eq_some_iff.1 HA.out
            rw [List.take_succ_eq_append_getElem h1, h2, HRA.out]
            simp [recs]
          rw [e]
          exact HOWN'.out
    · have he : ol = L.length := by omega
      have hz : rr = 0 := by rw [HRR.out, hdD_drop_end (by omega)]
      have HE := hid he
      subst hz
      clear hlt hj he
      go_wp2_with fail
      go_ret
      refine ⟨_, rfl, HS1.out, ?_⟩
      have h1 := HOWN.out
      rw [HE.out, List.take_length] at h1
      rw [HE.out]
      exact own_ints h1 (by have := HLEN.out; omega) (fun k hk => by have := HM.out k hk; omega)

/-- The keys rise along the list. -/
def Rising (t : Nat) (x : WorldM) (L : List Node) : Prop := ∀ (i : Nat) (a b : Node), L[i]? = some a → L[i + 1]? = some b → x.get (field t a.1 1) < x.get (field t b.1 1)

theorem Ints.at {M : List Nat} {w : World} {a : Option Addr} {l c : Nat} {xs : List Int} (h : Ints M w (.slice a l c) xs) : l = xs.length ∧ ∀ (i : Nat) (n : Int), xs[i]? = some n → ∃ b off, a = some ⟨b, off, none⟩ ∧ w.cell? ⟨b, off + i, none⟩ = some (.int .i64 n) := by
  have h' := h
  obtain ⟨a', l', c', e, h1, _, _, h4⟩ := h
  simp only [Value.slice.injEq] at e
  obtain ⟨rfl, rfl, rfl⟩ := e
  have hl : l = xs.length := by simpa using h1.symm
  refine ⟨hl, fun i n hi => ?_⟩
  rcases h4 with ⟨_, h0, _⟩ | ⟨b, off, rfl, _⟩
  · have := (List.getElem?_eq_some_iff.1 hi).1; omega
  · have := Sl.cells_at h' i (.int .i64 n) (by simp [hi])
    rw [Addr.add_lit] at this
    exact ⟨b, off, rfl, this⟩

set_option maxRecDepth 100000 in
theorem Sorted_any {M : List Nat} {w : World} {t C : Nat} {ma : Option Addr} {ml mc : Nat} {x : WorldM} {L : List Node} (hu : U64s M w (.slice ma ml mc) x.mem.word) (hL : Lst t C x L) (hR : Rising t x L) (hM : ∀ k, k ∈ M → k < w.heap.size) :
    Calls Tryd.prog 12 #[.agg #[.int .i64 t, .int .i64 C, .slice ma ml mc]] w fun e w' => e = .returned (.bool true) ∧ Same [] w w' := by
  have hml : ml = 8 + t + 8 * C := by
    obtain ⟨a', l', c', e, h1, _⟩ := hu.sl
    simp only [Value.slice.injEq] at e
    obtain ⟨_, rfl, _⟩ := e
    have := hL.dim.len
    unfold WorldM.len at this
    simp at h1; omega
  subst hml
  obtain ⟨b, off, rfl⟩ : ∃ b off, ma = some ⟨b, off, none⟩ := by
    obtain ⟨a', l', c', e, h1, _, _, h4⟩ := hu.sl
    simp only [Value.slice.injEq] at e
    obtain ⟨rfl, rfl, rfl⟩ := e
    rcases h4 with ⟨_, h4, _⟩ | ⟨b, off, rfl, _⟩
    · omega
    · exact ⟨b, off, rfl⟩
  have hcell : ∀ W, Same [] w W → ∀ i, i < 8 + t + 8 * C → W.cell? ⟨b, off + i, none⟩ = some (.int .u64 (x.get i : Nat)) := fun W hs i hi => by
    have h := Sl.cells_at (hu.sl.same hs (by simp)) i (.int .u64 (x.get i : Nat)) (by
      have := hL.dim.len
      unfold WorldM.len at this
      have hi' : i < x.mem.word.length := by omega
      simp [WorldM.get, hi'])
    rw [Addr.add_lit] at h
    exact h
  have htT := hL.dim.T
  have hcC := hL.dim.C
  have hlenL := hL.length_le
  have HC := hid hcell; have HU := hid hu; have HL := hid hL; have HM := hid hM; have HLEN := hid hlenL; have HR := hid hR
  clear hcell hu hL hM hlenL hR
  go_enter Tryd.func12, Tryd.ntmps12
  go_wp2_with fail
  refine calls_gen fun W hW => ?_
  have hs : Same [] w W := by rw [hW]; exact (Same.refl _ _).alloc _
  have d0 : W.heap[w.heap.size]? = some (.cells #[.int .i64 t, .int .i64 C, .slice (some ⟨b, off, none⟩) (8 + t + 8 * C) mc] 26 (0, 0)) := by rw [hW]; exact block_at rfl
  clear hW
  refine (Linked_any (M := w.heap.size :: M) ((HU.out.grow (fun y hy => by rcases List.mem_cons.1 hy with h | h; exact .inr (by omega); exact .inl h)).same hs (by simp)) HL.out (fun k hk => by have := lt_of_some d0; rcases List.mem_cons.1 hk with h | h; omega; have := HM.out k h; omega)).mono ?_
  rintro _ w1 ⟨v1, rfl, hs1, hi1⟩
  obtain ⟨la, ll, lc, rfl⟩ := hi1.form
  obtain ⟨rfl, hat⟩ := hi1.at
  have d1 := (hs1.block _ (lt_of_some d0) (by simp)).trans d0
  obtain ⟨x0, x1, x2⟩ := cells3 d1
  have HS := hid (hs.then hs1); have D1 := hid d1; have HAT := hid hat; have HI := hid hi1
  have g0 : ¬ C < (recs L).length := by have := HLEN.out; simp [recs]; omega
  clear hs hs1 hi1 d0 d1 hat
  go_wp2_with fail
  go_loopg [4] ((recs L).length + 2) (fun g iv wr => ∃ i : Nat, 1 ≤ i ∧ i ≤ (recs L).length + 1 ∧ i + g = (recs L).length + 3 ∧ iv = .int .i64 i ∧ Same [] w1 wr)
  case atStart => exact ⟨1, by omega, by omega, by omega, rfl, Same.refl _ _⟩
  case round =>
    obtain ⟨i, hi1, hi2, hig, rfl, hs⟩ := hrel
    have HIG := hid hig; have HS1 := hid hs
    have d2 := (hs.block _ (lt_of_some D1.out) (by simp)).trans D1.out
    clear x0 x1 x2
    obtain ⟨x0, x1, x2⟩ := cells3 d2
    clear hig hs d2
    by_cases hlt : i < (recs L).length
    · have hlr : (recs L).length = L.length := by simp [recs]
      obtain ⟨a, ha⟩ : ∃ a, L[i - 1]? = some a := ⟨_, List.getElem?_eq_getElem (by omega)⟩
      obtain ⟨c, hc⟩ : ∃ c, L[i]? = some c := ⟨_, List.getElem?_eq_getElem (by omega)⟩
      have hra : (recs L)[i - 1]? = some (a.1 : Int) := by simp [recs, ha]
      have hrc : (recs L)[i]? = some (c.1 : Int) := by simp [recs, hc]
      obtain ⟨lb, lo, rfl, q1⟩ := (HI.out.same HS1.out (by simp)).at.2 (i - 1) _ hra
      obtain ⟨lb', lo', e, q2⟩ := (HI.out.same HS1.out (by simp)).at.2 i _ hrc
      simp only [Option.some.injEq, Addr.mk.injEq, and_true] at e
      obtain ⟨rfl, rfl⟩ := e
      have hma := HL.out.mem a (List.mem_of_getElem? ha)
      have hmc := HL.out.mem c (List.mem_of_getElem? hc)
      have hlt' := HR.out (i - 1) a c ha (by rw [show i - 1 + 1 = i from by omega]; exact hc)
      obtain ⟨ra, hrae⟩ : ∃ z, z = a.1 := ⟨_, rfl⟩
      obtain ⟨rc, hrce⟩ : ∃ z, z = c.1 := ⟨_, rfl⟩
      rw [← hrae] at q1 hma hlt'
      rw [← hrce] at q2 hmc hlt'
      have hfa : field t ra 1 < 8 + t + 8 * C := by unfold field; omega
      have hfc : field t rc 1 < 8 + t + 8 * C := by unfold field; omega
      have p1 := HC.out wr (HS.out.then HS1.out) _ hfa
      have p2 := HC.out wr (HS.out.then HS1.out) _ hfc
      obtain ⟨ka, hka⟩ : ∃ z, z = x.get (field t ra 1) := ⟨_, rfl⟩
      obtain ⟨kc, hkc⟩ : ∃ z, z = x.get (field t rc 1) := ⟨_, rfl⟩
      rw [← hka] at p1 hlt'
      rw [← hkc] at p2 hlt'
      have ei : (i : Int) - 1 = ((i - 1 : Nat) : Int) := by omega
      obtain ⟨i1, hi1e⟩ : ∃ z, z = i - 1 := ⟨_, rfl⟩
      rw [← hi1e] at q1 ei
      have b1 : ((field t ra 1 : Nat) : Int) < ((8 + t + 8 * C : Nat) : Int) := by omega
      have b1' : ((field t ra 1 : Nat) : Int) < 8 + (t : Int) + 8 * (C : Int) := by omega
      have b2 : ((field t rc 1 : Nat) : Int) < ((8 + t + 8 * C : Nat) : Int) := by omega
      have b2' : ((field t rc 1 : Nat) : Int) < 8 + (t : Int) + 8 * (C : Int) := by omega
      have z1 : (0 : Int) ≤ ((field t ra 1 : Nat) : Int) := by omega
      have z2 : (0 : Int) ≤ ((field t rc 1 : Nat) : Int) := by omega
      have g1 : i < (recs L).length := hlt
      have g2 : i1 < (recs L).length := by omega
      have g3 : ¬ kc ≤ ka := by omega
      clear ha hc hra hrc hrae hrce hfa hfc hka hkc hlt' hlr hi1e
      go_wp2_with fail
      go_quiet (first | (go_at_call 10; exact quietC (RField_any (t := t) (r := ra) (f := 1) htT (by omega) (by omega) (by decide))))
      go_wp2_with fail
      refine wp_gen fun W5 hW5 => ?_
      have y0 : W5.cell? ⟨w.heap.size, 0, none⟩ = some (.int .i64 t) := hW5 ▸ x0
      have y2 : W5.cell? ⟨w.heap.size, 2, none⟩ = some (.slice (some ⟨b, off, none⟩) (8 + t + 8 * C) mc) := hW5 ▸ x2
      have y3 : W5.cell? ⟨lb, lo + i, none⟩ = some (.int .i64 rc) := hW5 ▸ q2
      have y4 : W5.cell? ⟨b, off + field t rc 1, none⟩ = some (.int .u64 kc) := hW5 ▸ p2
      have hs5 : Same [] wr W5 := by rw [hW5]; exact (Same.refl _ _).drewN _
      have HS5 := hid hs5
      clear hW5 hs5 x0 x1 x2 q1 q2 p1 p2
      go_quiet (first | (go_at_call 10; exact quietC (RField_any (t := t) (r := rc) (f := 1) htT (by omega) (by omega) (by decide))))
      go_wp2_with fail
      go_roundg (gk - 1)
      case measure => have := HIG.out; omega
      case rel => exact ⟨i + 1, by omega, by omega, by have := HIG.out; omega, by simp, (HS1.out.then HS5.out).drewN _⟩
    · have g1 : ¬ i < (recs L).length := hlt
      clear hlt
      go_wp2_with fail
      go_ret
      exact ⟨rfl, HS.out.then HS1.out⟩
end Go.Proofs.YtdfeinfaljidgaaDoor
