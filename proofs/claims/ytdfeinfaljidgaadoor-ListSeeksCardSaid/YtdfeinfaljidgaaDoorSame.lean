/- The contracts of the document's comparisons, where both sides are the same. -/
import Derived.Test.YtdfeinfaljidgaaDoorRef
import Derived.Test.YtdfeinfaljidgaaDoorDisk
import Derived.Test.YtdfeinfaljidgaaDoorPoke
import Derived.Laws.IdiomStrings
import Derived.Deep.LoopGhost
import Derived.Deep.RegionHeld2
namespace Go.Proofs.YtdfeinfaljidgaaDoor
open Go Go.RowKit

theorem und_bytesT : Tryd.prog.underlying 22 = some (.slice 5) := by kernel_rfl
theorem und_byteT : Tryd.prog.underlying 5 = some (.int .u8) := by kernel_rfl
theorem und_stringT : Tryd.prog.underlying 9 = some .string := by kernel_rfl
theorem bytes_string {M : List Nat} {w : World} {a : Option Addr} {l c : Nat} {bs : List UInt8} (h : Bytes M w (.slice a l c) bs) (W : World) (hs : Same [] w W) :
    (convert 22 9 (.slice a l c)).run Tryd.prog W = .ok (.string ⟨bs.toArray⟩) W := by
  have h' := Bytes.same h hs (by simp)
  have hcells := fun b off (e : a = some ⟨b, off, none⟩) => Sl.cells_at (M := M) (w := W) (b := b) (off := off) (len := l) (cap := c) (sz := 1) (cs := bs.map fun n : UInt8 => Value.int .u8 n.toNat) (by subst e; exact h')
  obtain ⟨a', l', c', e, h1, h2, h3, h4⟩ := h'
  simp only [Value.slice.injEq] at e
  obtain ⟨rfl, rfl, rfl⟩ := e
  have hl : l = bs.length := by simpa using h1.symm
  subst hl
  rcases h4 with ⟨rfl, h0, rfl⟩ | ⟨b, off, rfl, hr⟩
  · obtain rfl : bs = [] := List.eq_nil_of_length_eq_zero h0
    rw [run_convert_bytes_string W _ _ _ none _ _ und_bytesT und_byteT und_stringT]
    rfl
  · refine run_convert_bytes_back W _ _ _ _ c bs und_bytesT und_byteT und_stringT fun j hj => ?_
    exact hcells b off rfl j _ (by simp [hj])

theorem RStrSame_any {M M' : List Nat} {w : World} {a a' : Option Addr} {l c l' c' : Nat} {s : StreamM} (h : Bytes M w (.slice a l c) s.data) (h' : Bytes M' w (.slice a' l' c') s.data) :
    Calls Tryd.prog 68 #[.agg #[.slice a l c, .int .i64 s.synced], .agg #[.slice a' l' c', .int .i64 s.synced]] w fun e w' => e = .returned (.bool true) ∧ Same [] w w' := by
  have hc : ∀ o1 o2, (convert 22 9 (.slice a l c)).run Tryd.prog ((w.alloc o1).alloc o2) = .ok (.string ⟨s.data.toArray⟩) ((w.alloc o1).alloc o2) := fun o1 o2 => bytes_string h _ (((Same.refl _ _).alloc _).alloc _)
  have hc' : ∀ o1 o2, (convert 22 9 (.slice a' l' c')).run Tryd.prog ((w.alloc o1).alloc o2) = .ok (.string ⟨s.data.toArray⟩) ((w.alloc o1).alloc o2) := fun o1 o2 => bytes_string h' _ (((Same.refl _ _).alloc _).alloc _)
  clear h h'
  go_enter Tryd.func68, Tryd.ntmps68
  go_wp2_with fail
  go_ret
  exact ⟨rfl, ((Same.refl _ _).alloc _).alloc _⟩
theorem RStrs.len {M : List Nat} {w : World} {a : Option Addr} {n c : Nat} {ss : List StreamM} (h : RStrs M w (.slice a n c) ss) : n = ss.length ∧ n ≤ 140737488355328 := by
  obtain ⟨l, rfl, ⟨a', l', c', e, h1, _, h3, _⟩, _⟩ := h
  simp only [Value.slice.injEq] at e
  obtain ⟨_, rfl, _⟩ := e
  rw [strCells_length] at h1
  refine ⟨?_, h3⟩
  rw [List.length_map]; omega
theorem RStrs.at {M : List Nat} {w : World} {a : Option Addr} {n c : Nat} {ss : List StreamM} (h : RStrs M w (.slice a n c) ss) {i : Nat} {s : StreamM} (hi : ss[i]? = some s) :
    ∃ b off la ll lc, a = some ⟨b, off, none⟩ ∧ w.cell? ⟨b, off + i * 2, none⟩ = some (.slice la ll lc) ∧ w.cell? ⟨b, off + i * 2 + 1, none⟩ = some (.int .i64 s.synced) ∧ Bytes M w (.slice la ll lc) s.data := by
  obtain ⟨l, rfl, hsl, hb⟩ := h
  rw [List.getElem?_map] at hi
  obtain ⟨⟨s', v⟩, hp, rfl⟩ := Option.map_eq_some_iff.1 hi
  have hbb := hb _ (List.mem_of_getElem? hp)
  obtain ⟨la, ll, lc, e⟩ := hbb.form
  simp only at e
  subst e
  obtain ⟨c1, c2⟩ := strCells_at hp
  have hsl' := hsl
  obtain ⟨a', l', c', e, h1, _, _, h4⟩ := hsl
  simp only [Value.slice.injEq] at e
  obtain ⟨rfl, rfl, rfl⟩ := e
  rcases h4 with ⟨_, h0, _⟩ | ⟨b, off, rfl, _⟩
  · rw [strCells_length] at h1
    have := (List.getElem?_eq_some_iff.1 hp).1
    omega
  · have q1 := Sl.cells_at hsl' (i * 2) _ c1
    have q2 := Sl.cells_at hsl' (i * 2 + 1) _ c2
    rw [Addr.add_lit] at q1 q2
    exact ⟨b, off, la, ll, lc, rfl, q1, q2, hbb⟩

set_option maxRecDepth 100000 in
theorem RAll_any {M M' : List Nat} {w : World} {a a' : Option Addr} {n c n' c' : Nat} {ss : List StreamM} (h : RStrs M w (.slice a n c) ss) (h' : RStrs M' w (.slice a' n' c') ss) :
    Calls Tryd.prog 52 #[.slice a n c, .slice a' n' c'] w fun e w' => e = .returned (.bool true) ∧ Same [] w w' := by
  obtain ⟨rfl, hb⟩ := h.len
  obtain ⟨rfl, _⟩ := h'.len
  have H := hid h; have H' := hid h'; have HB := hid hb; clear h h' hb
  go_enter Tryd.func52, Tryd.ntmps52
  go_wp2_with fail
  go_loopg [5] (ss.length + 1) (fun g iv wr => ∃ i : Nat, i ≤ ss.length ∧ i + g = ss.length + 1 ∧ iv = .int .i64 i ∧ Same [] w wr)
  case atStart => exact ⟨0, by omega, by omega, rfl, Same.refl _ _⟩
  case round =>
    obtain ⟨i, hi, hig, rfl, hs⟩ := hrel
    have HIG := hid hig; have HS := hid hs
    clear hig hs
    by_cases hlt : i < ss.length
    · have g1 : i < ss.length := hlt
      obtain ⟨s, hsi⟩ : ∃ s, ss[i]? = some s := ⟨_, List.getElem?_eq_getElem hlt⟩
      obtain ⟨b, off, la, ll, lc, rfl, q0, q1, hq⟩ := (H.out.same HS.out (by simp)).at hsi
      obtain ⟨b', off', la', ll', lc', rfl, q0', q1', hq'⟩ := (H'.out.same HS.out (by simp)).at hsi
      have HQ := hid hq; have HQ' := hid hq'
      clear hq hq' hsi hlt
      go_wp2_with fail
      go_region_with (go_at_call 68; refine (RStrSame_any (HQ.out.same ((Same.refl [] _).drew) (by simp)) (HQ'.out.same ((Same.refl [] _).drew) (by simp))).mono ?_; rintro e w' ⟨rfl, hs2⟩; have HS2 := hid hs2; clear hs2)
      all_goals go_wp2_with fail
      all_goals go_roundg (gk - 1)
      all_goals first
        | (have := HIG.out; omega)
        | exact ⟨i + 1, by omega, by have := HIG.out; omega, by simp, (HS.out.drew).then HS2.out⟩
    · have g1 : ¬ i < ss.length := hlt
      clear hlt hi
      go_wp2_with fail
      go_ret
      exact ⟨rfl, HS.out⟩

set_option maxRecDepth 100000 in
theorem RDiskSame_any {M M' : List Nat} {w : World} {root : Nat} {a0 a1 p0 p1 : Option Addr} {m0 c0 m1 c1 n0 d0 n1 d1 : Nat} {s0 s1 : List StreamM} (h0 : RStrs M w (.slice a0 m0 c0) s0) (h1 : RStrs M w (.slice a1 m1 c1) s1) (h0' : RStrs M' w (.slice p0 n0 d0) s0) (h1' : RStrs M' w (.slice p1 n1 d1) s1) :
    Calls Tryd.prog 29 #[.agg #[.int .u64 root, .slice a0 m0 c0, .slice a1 m1 c1], .agg #[.int .u64 root, .slice p0 n0 d0, .slice p1 n1 d1]] w fun e w' => e = .returned (.bool true) ∧ Same [] w w' := by
  have H0 := hid h0; have H1 := hid h1; have H0' := hid h0'; have H1' := hid h1'
  clear h0 h1 h0' h1'
  go_enter Tryd.func29, Tryd.ntmps29
  go_wp2_with fail
  refine calls_gen fun W hW => ?_
  have hs : Same [] w W := by rw [hW]; exact ((Same.refl _ _).alloc _).alloc _
  have b0 : W.heap[w.heap.size]? = some (.cells #[.int .u64 root, .slice a0 m0 c0, .slice a1 m1 c1] 31 (0, 0)) := by rw [hW]; exact block_old (block_at rfl)
  have b1 : W.heap[w.heap.size + 1]? = some (.cells #[.int .u64 root, .slice p0 n0 d0, .slice p1 n1 d1] 31 (0, 0)) := by rw [hW]; exact block_at (by simp)
  have HS := hid hs; have HB0 := hid b0; have HB1 := hid b1; clear hW hs b0 b1
  refine (RAll_any (H0.out.same HS.out (by simp)) (H0'.out.same HS.out (by simp))).mono ?_
  rintro _ w1 ⟨rfl, hs1⟩
  have e0 := (hs1.block _ (lt_of_some HB0.out) (by simp)).trans HB0.out
  have e1 := (hs1.block _ (lt_of_some HB1.out) (by simp)).trans HB1.out
  obtain ⟨x0, x1, x2⟩ := cells3 e0
  obtain ⟨y0, y1, y2⟩ := cells3 e1
  have HS1 := hid (HS.out.then hs1); have E0 := hid e0; have E1 := hid e1
  clear hs1 e0 e1
  go_wp2_with fail
  refine (RAll_any (H1.out.same HS1.out (by simp)) (H1'.out.same HS1.out (by simp))).mono ?_
  rintro _ w2 ⟨rfl, hs2⟩
  clear x0 x1 x2 y0 y1 y2
  obtain ⟨x0, x1, x2⟩ := cells3 ((hs2.block _ (lt_of_some E0.out) (by simp)).trans E0.out)
  obtain ⟨y0, y1, y2⟩ := cells3 ((hs2.block _ (lt_of_some E1.out) (by simp)).trans E1.out)
  have HS2 := hid (HS1.out.then hs2)
  clear hs2
  go_wp2_with fail
  go_ret
  exact ⟨rfl, HS2.out⟩

set_option maxRecDepth 100000 in
theorem RMemSame_any {M M' : List Nat} {w : World} {T C : Int} {a a' : Option Addr} {l c l' c' : Nat} {xs : List Nat} (h : U64s M w (.slice a l c) xs) (h' : U64s M' w (.slice a' l' c') xs) :
    Calls Tryd.prog 28 #[.agg #[.int .i64 T, .int .i64 C, .slice a l c], .agg #[.int .i64 T, .int .i64 C, .slice a' l' c']] w fun e w' => e = .returned (.bool true) ∧ Same [] w w' := by
  obtain ⟨hl, hb⟩ : l = xs.length ∧ xs.length ≤ 140737488355328 := by
    obtain ⟨a', l', c', e, h1, _, h3, _⟩ := h.sl
    simp only [Value.slice.injEq] at e
    obtain ⟨_, rfl, _⟩ := e
    simp at h1; omega
  obtain ⟨hl', _⟩ : l' = xs.length ∧ xs.length ≤ 140737488355328 := by
    obtain ⟨a', l', c', e, h1, _, h3, _⟩ := h'.sl
    simp only [Value.slice.injEq] at e
    obtain ⟨_, rfl, _⟩ := e
    simp at h1; omega
  subst hl hl'
  have H := hid h; have H' := hid h'; have HB := hid hb; clear h h' hb
  go_enter Tryd.func28, Tryd.ntmps28
  go_wp2_with fail
  refine wp_gen fun W hW => ?_
  have hs : Same [] w W := by rw [hW]; exact ((Same.refl _ _).alloc _).alloc _
  have b0 : W.heap[w.heap.size]? = some (.cells #[.int .i64 T, .int .i64 C, .slice a xs.length c] 26 (0, 0)) := by rw [hW]; exact block_old (block_at rfl)
  have b1 : W.heap[w.heap.size + 1]? = some (.cells #[.int .i64 T, .int .i64 C, .slice a' xs.length c'] 26 (0, 0)) := by rw [hW]; exact block_at (by simp)
  have HS := hid hs; have HB0 := hid b0; have HB1 := hid b1; clear hW hs b0 b1
  go_loopg [5] (xs.length + 1) (fun g iv wr => ∃ i : Nat, i ≤ xs.length ∧ i + g = xs.length + 1 ∧ iv = .int .i64 i ∧ Same [] W wr)
  case atStart => exact ⟨0, by omega, by omega, rfl, Same.refl _ _⟩
  case round =>
    obtain ⟨i, hi, hig, rfl, hs⟩ := hrel
    obtain ⟨x0, x1, x2⟩ := cells3 ((hs.block _ (lt_of_some HB0.out) (by simp)).trans HB0.out)
    obtain ⟨y0, y1, y2⟩ := cells3 ((hs.block _ (lt_of_some HB1.out) (by simp)).trans HB1.out)
    have HIG := hid hig; have HS1 := hid (HS.out.then hs); have HS2 := hid hs
    clear hig hs
    by_cases hlt : i < xs.length
    · have g1 : i < xs.length := hlt
      have hsl := (H.out.sl.same HS1.out (by simp))
      have hsl' := (H'.out.sl.same HS1.out (by simp))
      obtain ⟨b, off, rfl⟩ : ∃ b off, a = some ⟨b, off, none⟩ := by
        obtain ⟨a1, l1, c1, e, h1, _, _, h4⟩ := hsl
        simp only [Value.slice.injEq] at e
        obtain ⟨rfl, rfl, rfl⟩ := e
        rcases h4 with ⟨_, h4, _⟩ | ⟨b, off, rfl, _⟩
        · omega
        · exact ⟨b, off, rfl⟩
      obtain ⟨b', off', rfl⟩ : ∃ b off, a' = some ⟨b, off, none⟩ := by
        obtain ⟨a1, l1, c1, e, h1, _, _, h4⟩ := hsl'
        simp only [Value.slice.injEq] at e
        obtain ⟨rfl, rfl, rfl⟩ := e
        rcases h4 with ⟨_, h4, _⟩ | ⟨b, off, rfl, _⟩
        · omega
        · exact ⟨b, off, rfl⟩
      have q0 := hsl.cells_at i (.int .u64 (xs[i] : Nat)) (by simp [hlt])
      have q1 := hsl'.cells_at i (.int .u64 (xs[i] : Nat)) (by simp [hlt])
      rw [Addr.add_lit] at q0 q1
      obtain ⟨v, hv⟩ : ∃ v, v = xs[i] := ⟨_, rfl⟩
      rw [← hv] at q0 q1
      clear hv hsl hsl' hlt
      go_wp2_with fail
      go_region
      all_goals go_wp2_with fail
      all_goals go_roundg (gk - 1)
      all_goals first
        | (have := HIG.out; omega)
        | exact ⟨i + 1, by omega, by have := HIG.out; omega, by simp, HS2.out.drew⟩
    · have g1 : ¬ i < xs.length := hlt
      clear hlt hi
      go_wp2_with fail
      go_ret
      exact ⟨rfl, HS1.out⟩

set_option maxRecDepth 100000 in
theorem RWorldSame_any {M M' : List Nat} {w : World} {v v' : Value} {x : WorldM} (h : RWorld M w v x) (h' : RWorld M' w v' x) :
    Calls Tryd.prog 15 #[v, v'] w fun e w' => e = .returned (.bool true) ∧ Same [] w w' := by
  obtain ⟨ma, ml, mc, ra, rl, rc, sa, sl, sc, rfl⟩ := h.forms
  obtain ⟨ma', ml', mc', ra', rl', rc', sa', sl', sc', rfl⟩ := h'.forms
  have H := hid h; have H' := hid h'; clear h h'
  go_enter Tryd.func15, Tryd.ntmps15
  go_wp2_with fail
  refine calls_gen fun W hW => ?_
  have hs : Same [] w W := by rw [hW]; exact ((Same.refl _ _).alloc _).alloc _
  have b0 : W.heap[w.heap.size]? = some (.cells #[.int .i64 x.mem.T, .int .i64 x.mem.C, .slice ma ml mc, .int .u64 x.disk.root, .slice ra rl rc, .slice sa sl sc] 33 (0, 0)) := by rw [hW]; exact block_old (block_at rfl)
  have b1 : W.heap[w.heap.size + 1]? = some (.cells #[.int .i64 x.mem.T, .int .i64 x.mem.C, .slice ma' ml' mc', .int .u64 x.disk.root, .slice ra' rl' rc', .slice sa' sl' sc'] 33 (0, 0)) := by rw [hW]; exact block_at (by simp)
  have HS := hid hs; have HB0 := hid b0; have HB1 := hid b1; clear hW hs b0 b1
  refine (RMemSame_any (H.out.same HS.out (by simp)).words.2.2.2.2 (H'.out.same HS.out (by simp)).words.2.2.2.2).mono ?_
  rintro _ w1 ⟨rfl, hs1⟩
  have e0 := (hs1.block _ (lt_of_some HB0.out) (by simp)).trans HB0.out
  have e1 := (hs1.block _ (lt_of_some HB1.out) (by simp)).trans HB1.out
  obtain ⟨x0, x1, x2, x3, x4, x5⟩ := cells6 e0
  obtain ⟨y0, y1, y2, y3, y4, y5⟩ := cells6 e1
  have HS1 := hid (HS.out.then hs1); clear hs1 e0 e1
  have hst : ∀ {M : List Nat} {ma ml mc ra rl rc sa sl sc}, RWorld M w (.agg #[.int .i64 x.mem.T, .int .i64 x.mem.C, .slice ma ml mc, .int .u64 x.disk.root, .slice ra rl rc, .slice sa sl sc]) x → RStrs (ownL (.slice ma ml mc) ++ M) w1 (.slice ra rl rc) x.disk.row0 ∧ RStrs (ownL (.slice ma ml mc) ++ M) w1 (.slice sa sl sc) x.disk.row1 := by
    intro M ma ml mc ra rl rc sa sl sc h
    obtain ⟨wv, v0, v1, e, _, h2, h3, _⟩ := h.same HS1.out (by simp)
    simp only [Value.agg.injEq, Array.mk.injEq, List.cons.injEq, true_and] at e
    obtain ⟨rfl, rfl, rfl, _⟩ := e
    exact ⟨h2, h3⟩
  have HD := hid (hst H.out); have HD' := hid (hst H'.out); clear hst
  go_wp2_with fail
  refine (RDiskSame_any HD.out.1 HD.out.2 HD'.out.1 HD'.out.2).mono ?_
  rintro _ w2 ⟨rfl, hs2⟩
  have HS2 := hid (HS1.out.then hs2)
  clear hs2
  go_wp2_with fail
  go_ret
  exact ⟨rfl, HS2.out⟩
end Go.Proofs.YtdfeinfaljidgaaDoor
