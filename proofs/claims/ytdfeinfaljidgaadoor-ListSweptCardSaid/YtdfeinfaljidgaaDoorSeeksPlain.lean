/- ListSeeks, in plain data: rows of records with keys that rise, marked or not. Plain Lean. -/
import Derived.Test.YtdfeinfaljidgaaDoorLists2
import Derived.Test.YtdfeinfaljidgaaDoorNewPlain
namespace Go.Proofs.YtdfeinfaljidgaaDoor
open Go Go.RowKit

/-- The records 1 to i, marked as is told. -/
def nodesTo (ms : List Bool) (i : Nat) : List Node := (List.range i).map fun j => (j + 1, ms.getD j false)
theorem nodesTo_succ (ms : List Bool) (i : Nat) : nodesTo ms (i + 1) = nodesTo ms i ++ [(i + 1, ms.getD i false)] := by simp [nodesTo, List.range_succ]
theorem nodesTo_length (ms : List Bool) (i : Nat) : (nodesTo ms i).length = i := by simp [nodesTo]
theorem mem_nodesTo {ms : List Bool} {i : Nat} {a : Node} (h : a ∈ nodesTo ms i) : 1 ≤ a.1 ∧ a.1 ≤ i := by
  obtain ⟨j, hj, rfl⟩ := List.mem_map.1 h
  have := List.mem_range.1 hj
  simp; omega

theorem new_lst {t c : Nat} (ht : t ≤ 64) (hc : c ≤ 65536) : Lst t c (newW t c) [] := by
  refine ⟨⟨newW_len t c, ht, hc⟩, by simp, by simp, ?_, trivial⟩
  rw [newW_get (by omega)]
  unfold newAt link hdD
  rw [if_neg (by omega), if_neg (by omega)]
  simp
theorem new_field {t c r f : Nat} (hr : 1 ≤ r) (hC : r ≤ c) (hf : f < 7) : (newW t c).get (field t r f) = 0 := by
  unfold field
  rw [newW_get (by omega)]
  unfold newAt
  rw [if_neg (by omega), if_neg (by omega)]

/-- A record is laid behind the last one. -/
def laidRow (i kv : Nat) (m : Bool) (x : WorldM) : WorldM :=
  let y := (((x.put (field 1 (i + 1) 1) kv).put (field 1 (i + 1) 2) (4 * (i + 1))).put (next 1 i) (x.get (next 1 i) + 2 * (i + 1)))
  if m then y.put (next 1 (i + 1)) 1 else y
theorem laidRow_len {i kv : Nat} {m : Bool} {x : WorldM} : (laidRow i kv m x).len = x.len := by unfold laidRow; split <;> simp
theorem laidRow_get {i kv : Nat} {m : Bool} {x : WorldM} {C : Nat} (h : Dim 1 C x) (hi : i + 1 ≤ C) (j : Nat) :
    (laidRow i kv m x).get j = if j = next 1 (i + 1) ∧ m = true then 1 else if j = next 1 i then x.get (next 1 i) + 2 * (i + 1) else if j = field 1 (i + 1) 2 then 4 * (i + 1) else if j = field 1 (i + 1) 1 then kv else x.get j := by
  have e : ∀ j, ((((x.put (field 1 (i + 1) 1) kv).put (field 1 (i + 1) 2) (4 * (i + 1))).put (next 1 i) (x.get (next 1 i) + 2 * (i + 1)))).get j = if j = next 1 i then x.get (next 1 i) + 2 * (i + 1) else if j = field 1 (i + 1) 2 then 4 * (i + 1) else if j = field 1 (i + 1) 1 then kv else x.get j := by
    intro j
    by_cases h1 : j = next 1 i
    · rw [if_pos h1, h1, get_put_same]; exact h.put.put.next (by omega)
    rw [if_neg h1, get_put_ne h1]
    by_cases h2 : j = field 1 (i + 1) 2
    · rw [if_pos h2, h2, get_put_same]; exact h.put.field (by omega) hi (by decide)
    rw [if_neg h2, get_put_ne h2]
    by_cases h3 : j = field 1 (i + 1) 1
    · rw [if_pos h3, h3, get_put_same]; exact h.field (by omega) hi (by decide)
    rw [if_neg h3, get_put_ne h3]
  unfold laidRow
  cases m
  · simp only [Bool.false_eq_true, if_false, and_false]
    exact e j
  · simp only [if_true, and_true]
    by_cases h1 : j = next 1 (i + 1)
    · rw [if_pos h1, h1, get_put_same]; exact h.put.put.put.next hi
    · rw [if_neg h1, get_put_ne h1]; exact e j

/-- The first i rows are laid. -/
structure Laid (C : Nat) (ms : List Bool) (key : Nat → Nat) (i : Nat) (x : WorldM) : Prop where
  lst : Lst 1 C x (nodesTo ms i)
  key : ∀ r, 1 ≤ r → r ≤ i → x.get (field 1 r 1) = key r
  flag : ∀ r, 1 ≤ r → r ≤ i → x.get (field 1 r 2) = 4 * r
  rest : ∀ r f, i < r → r ≤ C → f < 7 → x.get (field 1 r f) = 0

theorem laid_new {C : Nat} (hC : C ≤ 65536) (ms : List Bool) (key : Nat → Nat) : Laid C ms key 0 (newW 1 C) :=
  ⟨new_lst (by omega) hC, fun _ _ _ => by omega, fun _ _ _ => by omega, fun _ _ hr hC hf => new_field (by omega) hC hf⟩
theorem lastD_nodes (ms : List Bool) (i : Nat) : lastD 0 (nodesTo ms i) = i := by
  cases i with
  | zero => rfl
  | succ i => rw [nodesTo_succ, lastD_snoc]
theorem chn_nodes {ms : List Bool} {t : Nat} {g : Nat → Nat} {i : Nat} : Chn t g (nodesTo ms i) 0 ↔ ∀ j, j < i → g (field t (j + 1) 0) = link (if j + 1 < i then j + 2 else 0) (ms.getD j false) := by
  have h : ∀ h0, Chn t g (nodesTo ms i) h0 ↔ ∀ j, j < i → g (field t (j + 1) 0) = link (if j + 1 < i then j + 2 else h0) (ms.getD j false) := by
    induction i with
    | zero => intro h0; simp [nodesTo, Chn]
    | succ i ih =>
      intro h0
      rw [nodesTo_succ, Chn.append, ih]
      constructor
      · rintro ⟨h1, h2, _⟩ j hj
        by_cases hji : j = i
        · subst hji; rw [if_neg (by omega)]; exact h2
        · have := h1 j (by omega)
          rw [this]
          by_cases h3 : j + 1 < i
          · rw [if_pos h3, if_pos (by omega)]
          · rw [if_neg h3, if_pos (by omega)]
            have : j + 1 = i := by omega
            subst this; rfl
      · intro h1
        refine ⟨fun j hj => ?_, ?_, trivial⟩
        · rw [h1 j (by omega), if_pos (by omega)]
          by_cases h3 : j + 1 < i
          · rw [if_pos h3]
          · rw [if_neg h3]
            have : j + 1 = i := by omega
            subst this; rfl
        · have := h1 i (by omega)
          rw [if_neg (by omega)] at this
          exact this
  exact h 0
theorem hdD_nodes (ms : List Bool) (i h : Nat) : hdD h (nodesTo ms i) = if i = 0 then h else 1 := by
  cases i with
  | zero => rfl
  | succ i => rw [if_neg (by omega)]; simp [nodesTo, List.range_succ_eq_map, hdD]
theorem Laid.step {C : Nat} {ms : List Bool} {key : Nat → Nat} {i : Nat} {x : WorldM} (h : Laid C ms key i x) (hi : i + 1 ≤ C) : Laid C ms key (i + 1) (laidRow i (key (i + 1)) (ms.getD i false) x) := by
  have hd := h.lst.dim
  have hg := laidRow_get (kv := key (i + 1)) (m := ms.getD i false) hd hi
  have hnx : ∀ r, 1 ≤ r → next 1 r = field 1 r 0 := fun r hr => by unfold next; rw [if_neg (by omega)]
  have hn : ∀ f r, 1 ≤ f → f < 8 → 1 ≤ r → ∀ p, field 1 r f ≠ next 1 p := fun f r h1 h2 h3 p => Ne.symm (next_field h1 h2 h3)
  -- the word that led to nothing
  have hled : x.get (next 1 i) = if i = 0 then 0 else link 0 (ms.getD (i - 1) false) := by
    by_cases h0 : i = 0
    · subst h0
      rw [if_pos rfl]
      have := h.lst.head
      rw [hdD_nodes, if_pos rfl] at this
      exact this
    · rw [if_neg h0, hnx i (by omega)]
      have := (chn_nodes.1 h.lst.chn) (i - 1) (by omega)
      rw [show i - 1 + 1 = i from by omega, if_neg (by omega)] at this
      exact this
  refine ⟨⟨⟨(laidRow_len).trans hd.len, hd.T, hd.C⟩, ?_, ?_, ?_, ?_⟩, ?_, ?_, ?_⟩
  · intro a ha; have := mem_nodesTo ha; omega
  · rw [nodesTo_succ, List.map_append, List.nodup_append]
    refine ⟨h.lst.nodup, by simp, ?_⟩
    intro a ha b hb
    obtain ⟨c, hc, rfl⟩ := List.mem_map.1 ha
    have := mem_nodesTo hc
    simp at hb; omega
  · rw [hdD_nodes, if_neg (by omega), hg, if_neg (by rw [hnx _ (by omega)]; unfold field; omega)]
    by_cases h0 : i = 0
    · subst h0
      rw [if_pos (show 0 = next 1 0 from rfl), hled, if_pos rfl]; rfl
    · rw [if_neg (by rw [hnx _ (by omega)]; unfold field; omega), if_neg (by unfold field; omega), if_neg (by unfold field; omega), h.lst.head, hdD_nodes, if_neg h0]
  · rw [chn_nodes]
    intro j hj
    rw [hg, hnx (i + 1) (by omega)]
    by_cases hji : j = i
    · subst hji
      rw [if_neg (show ¬ j + 1 < j + 1 from by omega)]
      have hz := h.rest (j + 1) 0 (by omega) hi (by decide)
      by_cases hm : ms.getD j false = true
      · rw [if_pos ⟨rfl, hm⟩, hm]; rfl
      · rw [if_neg (fun h => hm h.2), if_neg (by have := hn 0 (j + 1); unfold next; split <;> unfold field <;> omega), if_neg (by unfold field; omega), if_neg (by unfold field; omega), hz]
        have : ms.getD j false = false := by simpa using hm
        rw [this]; rfl
    · have hold := (chn_nodes.1 h.lst.chn) j (by omega)
      rw [if_neg (by unfold field; omega)]
      by_cases hl : j + 1 = i
      · subst hl
        rw [if_pos (hnx (j + 1) (by omega)).symm, hled, if_neg (by omega), if_pos (by omega), show j + 1 - 1 = j from by omega]
        unfold link; omega
      · rw [if_neg (by unfold next; split <;> unfold field <;> omega), if_neg (by unfold field; omega), if_neg (by unfold field; omega), hold]
        by_cases h3 : j + 1 < i
        · rw [if_pos h3, if_pos (by omega)]
        · omega
  · intro r h1 h2
    rw [hg, if_neg (fun h => hn 1 r (by decide) (by decide) h1 _ h.1), if_neg (hn 1 r (by decide) (by decide) h1 _), if_neg (by unfold field; omega)]
    by_cases hr : r = i + 1
    · subst hr; rw [if_pos rfl]
    · rw [if_neg (by unfold field; omega)]; exact h.key r h1 (by omega)
  · intro r h1 h2
    rw [hg, if_neg (fun h => hn 2 r (by decide) (by decide) h1 _ h.1), if_neg (hn 2 r (by decide) (by decide) h1 _)]
    by_cases hr : r = i + 1
    · subst hr; rw [if_pos rfl]
    · rw [if_neg (by unfold field; omega), if_neg (by unfold field; omega)]; exact h.flag r h1 (by omega)
  · intro r f h1 h2 h3
    rw [hg, if_neg (by rw [hnx _ (by omega)]; unfold field; omega), if_neg (by unfold next; split <;> unfold field <;> omega), if_neg (by unfold field; omega), if_neg (by unfold field; omega)]
    exact h.rest r f (by omega) h2 h3

theorem firstGe_append (key : Nat → Nat) (k : Nat) (A : List Node) (a : Node) (hA : ∀ b, b ∈ A → b.1 ≠ 0) : firstGe key k (A ++ [a]) = if firstGe key k A = 0 then (if k ≤ key a.1 then a.1 else 0) else firstGe key k A := by
  induction A with
  | nil => simp [firstGe]
  | cons b A ih =>
    simp only [List.cons_append, firstGe]
    by_cases h : k ≤ key b.1
    · have := hA b (by simp)
      simp [h, this]
    · simp only [h, if_false]; exact ih fun c hc => hA c (by simp [hc])
theorem firstGe_le {key : Nat → Nat} {k : Nat} {ms : List Bool} {i : Nat} : firstGe key k (nodesTo ms i) ≤ i := by
  have h : ∀ l : List Node, (∀ a, a ∈ l → a.1 ≤ i) → firstGe key k l ≤ i := by
    intro l
    induction l with
    | nil => intro _; simp [firstGe]
    | cons a l ih =>
      intro h
      simp only [firstGe]
      split
      · exact h a (by simp)
      · exact ih fun b hb => h b (by simp [hb])
  exact h _ fun a ha => (mem_nodesTo ha).2
theorem cut_bare {key : Nat → Nat} {k : Nat} {A : List Node} (h : Bare A) : hdD 0 (cutL key k A).2 = firstGe key k A := by
  induction A with
  | nil => rfl
  | cons a A ih =>
    simp only [cutL, firstGe]
    rw [h a (by simp)]
    simp only [Bool.false_eq_true, if_false]
    split
    · rfl
    · exact ih fun b hb => h b (by simp [hb])
/-- Any of the first i marked? -/
def anyTo (ms : List Bool) (i : Nat) : Bool := (nodesTo ms i).any (·.2)
theorem anyTo_succ (ms : List Bool) (i : Nat) : anyTo ms (i + 1) = (anyTo ms i || ms.getD i false) := by simp [anyTo, nodesTo_succ]
theorem bare_of_any {ms : List Bool} {i : Nat} (h : anyTo ms i = false) : Bare (nodesTo ms i) := by
  intro a ha
  unfold anyTo at h
  rw [List.any_eq_false] at h
  simpa using h a ha
theorem marks_le (L : List Node) : marks L ≤ L.length := List.length_filter_le _ _

/-- The key of the row r: the gaps ahead of it. -/
def keyTo (gs : List UInt8) (r : Nat) : Nat := (gs.take r).foldl (fun a g => a + 1 + g.toNat) 0
theorem keyTo_zero (gs : List UInt8) : keyTo gs 0 = 0 := by simp [keyTo]
theorem keyTo_succ {gs : List UInt8} {i : Nat} {g : UInt8} (h : gs[i]? = some g) : keyTo gs (i + 1) = keyTo gs i + 1 + g.toNat := by
  unfold keyTo
  obtain ⟨h1, h2⟩ := List.getElem?_eq_some_iff.1 h
  rw [List.take_succ_eq_append_getElem h1, List.foldl_append, h2]
  rfl
theorem keyTo_le (gs : List UInt8) (i : Nat) : keyTo gs i ≤ 256 * i := by
  have h : ∀ (l : List UInt8) a, l.foldl (fun a g => a + 1 + g.toNat) a ≤ a + 256 * l.length := by
    intro l
    induction l with
    | nil => intro a; simp
    | cons g l ih => intro a; have := ih (a + 1 + g.toNat); have := g.toNat_lt; simp only [List.foldl_cons, List.length_cons]; omega
  have := h (gs.take i) 0
  unfold keyTo
  rw [List.length_take] at this
  omega

theorem runs_okD {me : Nat} {x : WorldM} (h : x.disk = newD 1) : room me x.disk = 0 := by
  rw [h]
  unfold room newD rowM
  cases me <;> simp
theorem laidRow_disk {i kv : Nat} {m : Bool} {x : WorldM} : (laidRow i kv m x).disk = x.disk := by unfold laidRow; split <;> rfl
theorem laidRow_T {i kv : Nat} {m : Bool} {x : WorldM} : (laidRow i kv m x).mem.T = x.mem.T := by unfold laidRow; split <;> rfl
theorem firstGe_nodes {key : Nat → Nat} {k i : Nat} {ms : List Bool} : firstGe key k (nodesTo ms (i + 1)) = if firstGe key k (nodesTo ms i) = 0 then (if k ≤ key (i + 1) then i + 1 else 0) else firstGe key k (nodesTo ms i) := by
  rw [nodesTo_succ, firstGe_append]
  intro b hb; have := mem_nodesTo hb; omega
/-- What a seek finds there. -/
theorem seeks_run {gs : List UInt8} {ms : List Bool} {i k : Nat} {x : WorldM} (h : Laid 10 ms (keyTo gs) i x) (hi : i ≤ 10) :
    ∃ rs, runW 0 (listP 50 1 { kind := 25, u := (0 : Nat), v := (0 : Nat), w := k }) x = some ({ n := firstGe (keyTo gs) k (nodesTo ms i), is := firstGe (keyTo gs) k (nodesTo ms i) != 0 && keyTo gs (firstGe (keyTo gs) k (nodesTo ms i)) == k }, x, rs) ∧ rs.length ≤ 60 := by
  have hs := seek_runs (me := 0) (n := 50) (k := k) (keyTo gs) h.lst (by rw [nodesTo_length]; omega) fun a ha => h.key a.1 (mem_nodesTo ha).1 (mem_nodesTo ha).2
  have : Runs 0 (listP 50 1 { kind := 25, u := (0 : Nat), v := (0 : Nat), w := k }) x { n := firstGe (keyTo gs) k (nodesTo ms i), is := firstGe (keyTo gs) k (nodesTo ms i) != 0 && keyTo gs (firstGe (keyTo gs) k (nodesTo ms i)) == k } x 60 := by
    refine Runs.seq (l := 0) hs (Runs.pure _) ?_
    rw [nodesTo_length]; omega
  exact this
theorem searches_run {gs : List UInt8} {ms : List Bool} {i k : Nat} {x : WorldM} (h : Laid 10 ms (keyTo gs) i x) (hi : i ≤ 10) (hd : x.disk = newD 1) :
    ∃ z o rs, runW 0 (listP 50 1 { kind := 8, u := (0 : Nat), v := (0 : Nat), w := k }) x = some (o, z, rs) ∧ rs.length ≤ 400 ∧
      (anyTo ms i = false → o.n = firstGe (keyTo gs) k (nodesTo ms i) ∧ o.is = (firstGe (keyTo gs) k (nodesTo ms i) != 0 && keyTo gs (firstGe (keyTo gs) k (nodesTo ms i)) == k)) := by
  have hm := marks_le (nodesTo ms i)
  rw [nodesTo_length] at hm
  obtain ⟨z, h1, _⟩ := search_runs (me := 0) (t := 1) (C := 10) (n := 50) (k := k) (fun _ _ => True) (fun _ _ _ _ _ _ _ _ => trivial) (keyTo gs) h.lst (by rw [nodesTo_length]; omega) (fun a ha => h.key a.1 (mem_nodesTo ha).1 (mem_nodesTo ha).2) trivial (by rw [runs_okD hd]; omega)
  rw [nodesTo_length] at h1
  have : Runs 0 (listP 50 1 { kind := 8, u := (0 : Nat), v := (0 : Nat), w := k }) x _ z 400 := Runs.seq (l := 0) h1 (Runs.pure _) (by omega)
  obtain ⟨rs, h2, h3⟩ := this
  refine ⟨z, _, rs, h2, h3, fun ha => ?_⟩
  have hb := cut_bare (key := keyTo gs) (k := k) (bare_of_any ha)
  exact ⟨by rw [← hb], by rw [← hb, Bool.and_comm]⟩
end Go.Proofs.YtdfeinfaljidgaaDoor
