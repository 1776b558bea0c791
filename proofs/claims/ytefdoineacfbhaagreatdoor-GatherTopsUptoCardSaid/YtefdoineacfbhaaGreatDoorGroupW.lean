/- Groups: the plain words, and how they lie in memory. -/
import Derived.Test.YtefdoineacfbhaaGreatDoorBegun
import Derived.Maps.OwnSet
import Derived.Maps.Views
namespace Go.Proofs.YtefdoineacfbhaaGreatDoor
open Go Go.Proofs Go.Shelf Go.RowKit Go.Lib Go.Sort Go.Maps Go.WideMaps

/-! ### plain -/
section
variable {K V : Type} [DecidableEq K]
/-- Puts x behind the group of key k, or makes it. -/
def addTo : List (K × List V) → K → V → List (K × List V)
  | [], k, x => [(k, [x])]
  | g :: G, k, x => if g.1 = k then (g.1, g.2 ++ [x]) :: G else g :: addTo G k x
def groupsOf (f : V → K) (xs : List V) : List (K × List V) := xs.foldl (fun G x => addTo G (f x) x) []
def keysOf (G : List (K × List V)) : List K := G.map (·.1)

theorem groupsOf_snoc (f : V → K) (xs : List V) (x : V) : groupsOf f (xs ++ [x]) = addTo (groupsOf f xs) (f x) x := by
  simp [groupsOf, List.foldl_append]
theorem addTo_new {G : List (K × List V)} {k : K} (x : V) (h : k ∉ keysOf G) : addTo G k x = G ++ [(k, [x])] := by
  induction G with
  | nil => rfl
  | cons g G ih =>
    simp only [keysOf, List.map_cons, List.mem_cons, not_or] at h
    rw [addTo, if_neg (fun e => h.1 e.symm), ih (by simpa [keysOf] using h.2)]
    rfl
theorem addTo_at {G : List (K × List V)} {k : K} (x : V) (hn : (keysOf G).Nodup) {i : Nat} (hi : i < G.length) (h : G[i].1 = k) : addTo G k x = G.set i (k, G[i].2 ++ [x]) := by
  induction G generalizing i with
  | nil => simp at hi
  | cons g G ih =>
    cases i with
    | zero =>
      rw [addTo, if_pos (by simpa using h)]
      simp at h
      subst h
      rfl
    | succ i =>
      simp only [keysOf, List.map_cons, List.nodup_cons] at hn
      simp only [List.getElem_cons_succ] at h
      have hi' : i < G.length := by simpa using hi
      have : g.1 ≠ k := fun e => hn.1 (by rw [e, ← h]; exact List.mem_map_of_mem (List.getElem_mem _))
      rw [addTo, if_neg this, ih hn.2 hi' h]
      rfl
theorem addTo_nodup {G : List (K × List V)} (k : K) (x : V) (hn : (keysOf G).Nodup) : (keysOf (addTo G k x)).Nodup := by
  by_cases h : k ∈ keysOf G
  · obtain ⟨g, hg, e⟩ := List.mem_map.1 h
    obtain ⟨i, hi, rfl⟩ := List.mem_iff_getElem.1 hg
    rw [addTo_at x hn hi e]
    have : keysOf (G.set i (k, G[i].2 ++ [x])) = keysOf G := by
      unfold keysOf
      rw [List.map_set]
      apply List.ext_getElem
      · simp
      · intro j h1 h2
        rw [List.getElem_set]
        split
        · subst_vars; simp
        · rfl
    rw [this]
    exact hn
  · rw [addTo_new x h]
    unfold keysOf at *
    rw [List.map_append, List.nodup_append]
    refine ⟨hn, by simp, ?_⟩
    intro a ha b hb
    simp at hb
    subst hb
    intro e
    exact h (e ▸ ha)
theorem groupsOf_nodup (f : V → K) (xs : List V) : (keysOf (groupsOf f xs)).Nodup := by
  unfold groupsOf
  have : ∀ (xs : List V) (G : List (K × List V)), (keysOf G).Nodup → (keysOf (xs.foldl (fun G x => addTo G (f x) x) G)).Nodup := by
    intro xs
    induction xs with
    | nil => intro G h; exact h
    | cons x xs ih => intro G h; exact ih _ (addTo_nodup _ _ h)
  exact this xs [] (by simp [keysOf])
end

abbrev Grp := List Lb × List (Value × El)

/-! ### in memory -/

/-- A group's own block, and what its three cells hold. -/
structure GM where
  b : Nat
  lv : Value
  ev : Value
  sv : Value
  sb : Nat

def GroupAt (w : World) (B : Nat) (op : Agg) (x : GM × Grp) : Prop :=
  B ≤ x.1.b ∧ Blk w x.1.b 78 #[x.1.lv, x.1.ev, x.1.sv] ∧ w.ownsRow B 46 2 x.1.lv x.2.1.length (cellsL x.2.1) ∧ w.ownsRow B 43 2 x.1.ev x.2.2.length (cellsE x.2.2) ∧ SumIs w B op x.1.sv x.1.sb

def ApartG (ms : List (GM × Grp)) : Prop := ms.Pairwise fun x y => (∀ g, x.1.ev.ownBlock = some g → y.1.ev.ownBlock ≠ some g) ∧ x.1.b ≠ y.1.b ∧ x.1.sb ≠ y.1.sb

def GroupsMem (w : World) (B : Nat) (op : Agg) (gv : Value) (ms : List (GM × Grp)) : Prop :=
  w.ownsRow B 75 1 gv ms.length (ms.map fun m => .pointer (some ⟨m.1.b, 0, none⟩)) ∧ (∀ x ∈ ms, GroupAt w B op x) ∧ ApartG ms

/-- Block r is a row of type e. -/
def ElT (w : World) (r : Nat) (e : TypeId) : Prop := ∃ cs, Blk w r e cs
theorem ElT.same {w : World} {r : Nat} {e e' : TypeId} (h : ElT w r e) (h' : ElT w r e') : e = e' := by
  obtain ⟨cs, h⟩ := h
  obtain ⟨cs', h'⟩ := h'
  unfold Blk at h h'
  rw [h] at h'
  injection h' with h'
  injection h' with _ ht _
theorem ElT.of_row {w : World} {base size n : Nat} {e : TypeId} {v : Value} {xs : List Value} (h : w.ownsRow base e size v n xs) {r : Nat} (hr : v.ownBlock = some r) : ElT w r e := by
  rcases h.2 with ⟨rfl, _⟩ | ⟨g', cap, cur, rfl, _, hh, _⟩
  · cases hr
  · cases hr; exact ⟨cur, hh⟩
theorem row_lt {w : World} {base size n : Nat} {e : TypeId} {v : Value} {xs : List Value} (h : w.ownsRow base e size v n xs) {r : Nat} (hr : v.ownBlock = some r) : base ≤ r ∧ r < w.heap.size := ⟨(h.lt r hr).1, (h.lt r hr).2⟩
theorem sum_blk {w : World} {B : Nat} {op : Agg} {sv : Value} {sb : Nat} (h : SumIs w B op sv sb) : B ≤ sb ∧ ElT w sb (sumT op) := by
  unfold SumIs at h
  unfold sumT
  cases hk : kd op
  all_goals
    rw [hk] at h
    dsimp only at h ⊢
  · obtain ⟨_, h1, gb, h2, _⟩ := h; exact ⟨h1, _, h2⟩
  · exact ⟨h.2.1, _, h.2.2⟩
  · exact ⟨h.2.1, _, h.2.2⟩
  · exact ⟨h.2.1, h.2.2⟩
theorem ParAt.kept {w w' : World} {B : Nat} {op : Agg} {gb : Nat} {row : Option Nat} (h : ParAt w B op gb) (hg : w.grownBy w' row) (hq : ∀ r, row = some r → r < B ∨ ∃ e, ElT w r e ∧ e ≠ 27) : ParAt w' B op gb := by
  cases op
  case quantile q =>
    obtain ⟨h0, cs, h1, h2⟩ := h
    refine ⟨h0, cs, h1.grown hg (fun e => ?_), h2⟩
    rcases hq gb e.symm with h3 | ⟨t, h3, h4⟩
    · omega
    · exact h4 (h3.same ⟨_, h1⟩)
  all_goals trivial
theorem SumIs.kept {w w' : World} {B : Nat} {op : Agg} {sv : Value} {sb : Nat} {row : Option Nat} (h : SumIs w B op sv sb) (hg : w.grownBy w' row) (hr : some sb ≠ row) (hq : ∀ r, row = some r → r < B ∨ ∃ e, ElT w r e ∧ e ≠ 27) : SumIs w' B op sv sb := by
  unfold SumIs at h ⊢
  cases hk : kd op
  all_goals
    rw [hk] at h
    dsimp only at h ⊢
  · obtain ⟨h0, h1, gb, h2, h3⟩ := h
    exact ⟨h0, h1, gb, h2.grown hg hr, h3.kept hg hq⟩
  · exact ⟨h.1, h.2.1, h.2.2.grown hg hr⟩
  · exact ⟨h.1, h.2.1, h.2.2.grown hg hr⟩
  · exact ⟨h.1, h.2.1, h.2.2.elim fun cs hc => ⟨cs, hc.grown hg hr⟩⟩

theorem GroupAt.kept {w w' : World} {B : Nat} {op : Agg} {x : GM × Grp} {row : Option Nat} (h : GroupAt w B op x) (hg : w.grownBy w' row)
    (hb : some x.1.b ≠ row) (hl : ∀ r, x.1.lv.ownBlock = some r → some r ≠ row) (he : ∀ r, x.1.ev.ownBlock = some r → some r ≠ row) (hs : some x.1.sb ≠ row) (hq : ∀ r, row = some r → r < B ∨ ∃ e, ElT w r e ∧ e ≠ 27) : GroupAt w' B op x := by
  have own : ∀ {v : Value} {e : TypeId} {size n : Nat} {xs : List Value}, (∀ r, v.ownBlock = some r → some r ≠ row) → w.ownsRow B e size v n xs → w'.ownsRow B e size v n xs := by
    intro v e size n xs hv ho
    refine ho.kept hg ?_
    cases hq : v.ownBlock with
    | none => exact .inl rfl
    | some q => exact .inr (hv q hq)
  exact ⟨h.1, h.2.1.grown hg hb, own hl h.2.2.1, own he h.2.2.2.1, h.2.2.2.2.kept hg hs hq⟩

/-- Kept by a change of a row of another type, or of one that lies below. -/
theorem GroupAt.far {w w' : World} {B : Nat} {op : Agg} {x : GM × Grp} {row : Option Nat} (h : GroupAt w B op x) (hg : w.grownBy w' row)
    (hr : ∀ r, row = some r → r < B ∨ ∃ e, ElT w r e ∧ e ≠ 78 ∧ e ≠ 46 ∧ e ≠ 43 ∧ e ≠ sumT op ∧ e ≠ 27) : GroupAt w' B op x := by
  refine h.kept hg ?_ ?_ ?_ ?_ (fun r e => by
    rcases hr r e with h1 | ⟨t, h1, _, _, _, _, h2⟩
    · exact .inl h1
    · exact .inr ⟨t, h1, h2⟩)
  · intro e
    rcases hr _ e.symm with h1 | ⟨t, h1, h2, _⟩
    · have := h.1; omega
    · exact h2 (h1.same ⟨_, h.2.1⟩)
  · intro r e1 e
    rcases hr _ e.symm with h1 | ⟨t, h1, _, h2, _⟩
    · have := (row_lt h.2.2.1 e1).1; omega
    · exact h2 (h1.same (ElT.of_row h.2.2.1 e1))
  · intro r e1 e
    rcases hr _ e.symm with h1 | ⟨t, h1, _, _, h2, _⟩
    · have := (row_lt h.2.2.2.1 e1).1; omega
    · exact h2 (h1.same (ElT.of_row h.2.2.2.1 e1))
  · intro e
    have hs := sum_blk h.2.2.2.2
    rcases hr _ e.symm with h1 | ⟨t, h1, _, _, _, h2, _⟩
    · have := hs.1; omega
    · exact h2 (h1.same hs.2)

theorem grown_of_below {w w' : World} (h : RowKit.Below w.heap.size w w') : w.grownBy w' none := ⟨h.os, h.tape, h.output, h.size, fun k hk _ => h.block k hk⟩

theorem GroupsMem.kept {w w' : World} {B : Nat} {op : Agg} {gv : Value} {ms : List (GM × Grp)} {row : Option Nat} (h : GroupsMem w B op gv ms) (hg : w.grownBy w' row)
    (hr : ∀ r, row = some r → r < B ∨ ∃ e, ElT w r e ∧ e ≠ 78 ∧ e ≠ 46 ∧ e ≠ 43 ∧ e ≠ sumT op ∧ e ≠ 75 ∧ e ≠ 27) : GroupsMem w' B op gv ms := by
  refine ⟨h.1.kept hg ?_, fun x hx => (h.2.1 x hx).far hg fun r e => ?_, h.2.2⟩
  · cases hq : gv.ownBlock with
    | none => exact .inl rfl
    | some q =>
      refine .inr fun e => ?_
      rcases hr _ e.symm with h1 | ⟨t, h1, _, _, _, _, h2, _⟩
      · have := (row_lt h.1 hq).1; omega
      · exact h2 (h1.same (ElT.of_row h.1 hq))
  · rcases hr r e with h1 | ⟨t, h1, h2, h3, h4, h5, _, h6⟩
    · exact .inl h1
    · exact .inr ⟨t, h1, h2, h3, h4, h5, h6⟩
theorem GroupsMem.below {w w' : World} {B : Nat} {op : Agg} {gv : Value} {ms : List (GM × Grp)} (h : GroupsMem w B op gv ms) (hb : RowKit.Below w.heap.size w w') : GroupsMem w' B op gv ms :=
  h.kept (grown_of_below hb) fun r e => by cases e

theorem SumIs.mono {w : World} {B B' : Nat} {op : Agg} {sv : Value} {sb : Nat} (h : SumIs w B op sv sb) (hb : B' ≤ B) : SumIs w B' op sv sb := by
  unfold SumIs at h ⊢
  cases hk : kd op
  all_goals
    rw [hk] at h
    dsimp only at h ⊢
  · obtain ⟨h0, h1, gb, h2, h3⟩ := h
    refine ⟨h0, Nat.le_trans hb h1, gb, h2, ?_⟩
    cases op
    case quantile q => exact ⟨Nat.le_trans hb h3.1, h3.2⟩
    all_goals trivial
  all_goals exact ⟨h.1, Nat.le_trans hb h.2.1, h.2.2⟩
theorem GroupAt.mono {w : World} {B B' : Nat} {op : Agg} {x : GM × Grp} (h : GroupAt w B op x) (hb : B' ≤ B) : GroupAt w B' op x :=
  ⟨Nat.le_trans hb h.1, h.2.1, own_mono h.2.2.1 hb, own_mono h.2.2.2.1 hb, h.2.2.2.2.mono hb⟩
theorem GroupsMem.mono {w : World} {B B' : Nat} {op : Agg} {gv : Value} {ms : List (GM × Grp)} (h : GroupsMem w B op gv ms) (hb : B' ≤ B) : GroupsMem w B' op gv ms :=
  ⟨own_mono h.1 hb, fun x hx => (h.2.1 x hx).mono hb, h.2.2⟩

theorem elT_alloc {w : World} {r : Nat} {e : TypeId} (h : ElT w r e) (o : Obj) : ElT (w.alloc o) r e := h.elim fun cs hc => ⟨cs, hc.alloc o⟩
theorem ne_ptr (op : Agg) : (75 : TypeId) ≠ sumT op := by unfold sumT; cases kd op <;> decide

/-- A new group, with no element yet, behind the others. -/
theorem GroupsMem.push {w w' : World} {B : Nat} {op : Agg} {gv gv' : Value} {ms : List (GM × Grp)} {own : List Lb} {ov sv : Value} {sb : Nat} {c2 : Obj}
    (h : GroupsMem w B op gv ms) (hB : B ≤ w.heap.size) (hl : w.ownsRow B 46 2 ov own.length (cellsL own)) (hs : SumIs w B op sv sb) (hsb : ∀ x ∈ ms, x.1.sb ≠ sb)
    (hr : w'.ownsRow B 75 1 gv' (ms.length + 1) ((ms.map fun m => .pointer (some ⟨m.1.b, 0, none⟩)) ++ [.pointer (some ⟨w.heap.size, 0, none⟩)]))
    (hg : ((w.alloc (.cells #[ov, .slice none 0 0, sv] 78)).alloc c2).grownBy w' gv.ownBlock) :
    GroupsMem w' B op gv' (ms ++ [(⟨w.heap.size, ov, .slice none 0 0, sv, sb⟩, (own, []))]) := by
  have hrow : ∀ r, gv.ownBlock = some r → ElT ((w.alloc (.cells #[ov, .slice none 0 0, sv] 78)).alloc c2) r 75 := fun r hr => elT_alloc (elT_alloc (ElT.of_row h.1 hr) _) _
  have hfar : ∀ r, gv.ownBlock = some r → r < B ∨ ∃ e, ElT ((w.alloc (.cells #[ov, .slice none 0 0, sv] 78)).alloc c2) r e ∧ e ≠ 78 ∧ e ≠ 46 ∧ e ≠ 43 ∧ e ≠ sumT op ∧ e ≠ 27 :=
    fun r hr => .inr ⟨_, hrow r hr, by decide, by decide, by decide, ne_ptr op, by decide⟩
  have hal : ∀ {x : GM × Grp}, GroupAt w B op x → GroupAt ((w.alloc (.cells #[ov, .slice none 0 0, sv] 78)).alloc c2) B op x := fun hx =>
    (hx.far (World.grownBy_alloc _ _ none) fun r e => by cases e).far (World.grownBy_alloc _ _ none) fun r e => by cases e
  refine ⟨by rw [List.map_append, List.length_append]; exact hr, ?_, ?_⟩
  · intro x hx
    rcases List.mem_append.1 hx with hx | hx
    · exact (hal (h.2.1 x hx)).far hg hfar
    · obtain rfl : x = (⟨w.heap.size, ov, .slice none 0 0, sv, sb⟩, (own, [])) := by simpa using hx
      refine GroupAt.far (w := (w.alloc (.cells #[ov, .slice none 0 0, sv] 78)).alloc c2) ⟨hB, (Blk.new _ _ _).alloc _, (hl.alloc _).alloc _, World.ownsRow_nil _ _ _ _, (hs.kept (World.grownBy_alloc _ _ none) (by simp) (fun r e => nomatch e)).kept (World.grownBy_alloc _ _ none) (by simp) (fun r e => nomatch e)⟩ hg hfar
  · refine List.pairwise_append.2 ⟨h.2.2, List.pairwise_singleton _ _, fun x hx y hy => ?_⟩
    obtain rfl : y = (⟨w.heap.size, ov, .slice none 0 0, sv, sb⟩, (own, [])) := by simpa using hy
    refine ⟨fun g _ => by simp [Value.ownBlock], ?_, hsb x hx⟩
    have := (h.2.1 x hx).2.1.lt
    show x.1.b ≠ w.heap.size
    omega

theorem ApartG.at_ {ms : List (GM × Grp)} (h : ApartG ms) {i j : Nat} (hi : i < ms.length) (hj : j < ms.length) (hne : i ≠ j) :
    (∀ g, ms[i].1.ev.ownBlock = some g → ms[j].1.ev.ownBlock ≠ some g) ∧ ms[i].1.b ≠ ms[j].1.b ∧ ms[i].1.sb ≠ ms[j].1.sb := by
  unfold ApartG at h
  rw [List.pairwise_iff_getElem] at h
  rcases Nat.lt_or_ge i j with hl | hl
  · exact h i j hi hj hl
  · have := h j i hj hi (by omega)
    exact ⟨fun g e1 e2 => this.1 g e2 e1, fun e => this.2.1 e.symm, fun e => this.2.2 e.symm⟩

/-- One more element behind group i. -/
theorem GroupsMem.touch {w w' : World} {B : Nat} {op : Agg} {gv ev' : Value} {ms : List (GM × Grp)} {i : Nat} {mi : GM × Grp} {c : Obj} {x : Value × El}
    (h : GroupsMem w B op gv ms) (hi : i < ms.length) (hmi : ms[i] = mi)
    (hg : (w.alloc c).drew.grownBy w' mi.1.ev.ownBlock) (hown : w'.ownsRow B 43 2 ev' (mi.2.2.length + 1) (cellsE mi.2.2 ++ [x.1, .float .f64 x.2.2]))
    (hor : ev'.ownBlock = mi.1.ev.ownBlock ∨ ev'.ownBlock = some (w.heap.size + 1)) :
    GroupsMem (w'.setCell ⟨mi.1.b, 1, none⟩ ev') B op gv (ms.set i (⟨mi.1.b, mi.1.lv, ev', mi.1.sv, mi.1.sb⟩, (mi.2.1, mi.2.2 ++ [x]))) := by
  have hmem : mi ∈ ms := by rw [← hmi]; exact List.getElem_mem _
  have hat := h.2.1 mi hmem
  have hal : ∀ {y : GM × Grp}, GroupAt w B op y → GroupAt (w.alloc c).drew B op y := fun hy => by
    have h1 := hy.far (World.grownBy_alloc w c none) (fun r e => nomatch e)
    exact h1
  have hevT : ∀ r, mi.1.ev.ownBlock = some r → ElT (w.alloc c).drew r 43 := fun r hr => elT_alloc (ElT.of_row hat.2.2.2.1 hr) _
  have hrow1 : w'.ownsRow B 75 1 gv ms.length (ms.map fun m => .pointer (some ⟨m.1.b, 0, none⟩)) := by
    refine (h.1.alloc c).drew.kept hg ?_
    cases hq : gv.ownBlock with
    | none => exact .inl rfl
    | some q => exact .inr fun e => by have := (hevT q e.symm).same (elT_alloc (ElT.of_row h.1 hq) _); cases this
  have hbk : Blk w' mi.1.b 78 #[mi.1.lv, mi.1.ev, mi.1.sv] := by
    refine Blk.grown (w := (w.alloc c).drew) (hat.2.1.alloc c).drew hg fun e => ?_
    have := (hevT _ e.symm).same ⟨_, (hat.2.1.alloc c).drew⟩
    cases this
  have hbT : ElT w' mi.1.b 78 := ⟨_, hbk⟩
  have hs := Lib.grownBy_setCell w' mi.1.b 1 ev'
  have hlab : ∀ {r : Nat}, mi.1.lv.ownBlock = some r → ElT (w.alloc c).drew r 46 := fun hr => elT_alloc (ElT.of_row hat.2.2.1 hr) _
  have hl1 : w'.ownsRow B 46 2 mi.1.lv mi.2.1.length (cellsL mi.2.1) := by
    refine (hat.2.2.1.alloc c).drew.kept hg ?_
    cases hq : mi.1.lv.ownBlock with
    | none => exact .inl rfl
    | some q => exact .inr fun e => by have := (hevT q e.symm).same (hlab hq); cases this
  have hsum := sum_blk hat.2.2.2.2
  have hse : (43 : TypeId) ≠ sumT op := by unfold sumT; cases kd op <;> decide
  have hsg : (78 : TypeId) ≠ sumT op := by unfold sumT; cases kd op <;> decide
  have hqe : ∀ r, mi.1.ev.ownBlock = some r → r < B ∨ ∃ e, ElT (w.alloc c).drew r e ∧ e ≠ 27 := fun r hr => .inr ⟨_, hevT r hr, by decide⟩
  have hqg : ∀ {u : World}, ElT u mi.1.b 78 → ∀ r, some mi.1.b = some r → r < B ∨ ∃ e, ElT u r e ∧ e ≠ 27 := fun hu r hr => .inr ⟨_, by injection hr with hr; subst hr; exact hu, by decide⟩
  have hs1 : SumIs w' B op mi.1.sv mi.1.sb := by
    refine SumIs.kept (w := (w.alloc c).drew) (hat.2.2.2.2.kept (World.grownBy_alloc w c none) (by simp) (fun r e => nomatch e) : SumIs (w.alloc c) B op _ _) hg (fun e => ?_) hqe
    exact hse ((hevT _ e.symm).same (elT_alloc hsum.2 c))
  refine ⟨?_, ?_, ?_⟩
  · have e1 : (ms.set i (⟨mi.1.b, mi.1.lv, ev', mi.1.sv, mi.1.sb⟩, (mi.2.1, mi.2.2 ++ [x]))).map (fun m : GM × Grp => Value.pointer (some ⟨m.1.b, 0, none⟩)) = ms.map fun m => Value.pointer (some ⟨m.1.b, 0, none⟩) := by
      rw [List.map_set]
      apply List.ext_getElem
      · simp
      · intro j h1 h2
        rw [List.getElem_set]
        split
        · subst_vars; simp
        · rfl
    rw [e1, List.length_set]
    refine hrow1.kept hs ?_
    cases hq : gv.ownBlock with
    | none => exact .inl rfl
    | some q => exact .inr fun e => by injection e with e; subst e; have := (ElT.of_row hrow1 hq).same hbT; cases this
  · intro y hy
    obtain ⟨j, hj, rfl⟩ := List.mem_iff_getElem.1 hy
    have hj' : j < ms.length := by simpa using hj
    rw [List.getElem_set]
    split
    case isTrue hij =>
      refine ⟨hat.1, ?_, ?_, ?_, ?_⟩
      · have := hbk.set_ 1 ev'
        simpa using this
      · refine hl1.kept hs ?_
        cases hq : mi.1.lv.ownBlock with
        | none => exact .inl rfl
        | some q => exact .inr fun e => by injection e with e; subst e; have := (ElT.of_row hl1 hq).same hbT; cases this
      · have : w'.ownsRow B 43 2 ev' (mi.2.2 ++ [x]).length (cellsE (mi.2.2 ++ [x])) := by
          rw [cellsE_append, List.length_append]; exact hown
        refine this.kept hs ?_
        cases hq : ev'.ownBlock with
        | none => exact .inl rfl
        | some q => exact .inr fun e => by injection e with e; subst e; have := (ElT.of_row hown hq).same hbT; cases this
      · refine hs1.kept hs (fun e => ?_) (hqg hbT)
        injection e with e
        exact hsg (hbT.same (e ▸ (sum_blk hs1).2))
    case isFalse hij =>
      have hap := h.2.2.at_ hi hj' hij
      rw [hmi] at hap
      have hatj := hal (h.2.1 ms[j] (List.getElem_mem _))
      have hatj1 : GroupAt w' B op ms[j] := by
        refine hatj.kept hg ?_ ?_ ?_ ?_ hqe
        · intro e; have := (hevT _ e.symm).same ⟨_, hatj.2.1⟩; cases this
        · intro r e1 e; have := (hevT _ e.symm).same (ElT.of_row hatj.2.2.1 e1); cases this
        · intro r e1 e; exact hap.1 r e.symm e1
        · intro e; exact hse ((hevT _ e.symm).same (sum_blk hatj.2.2.2.2).2)
      refine hatj1.kept hs ?_ ?_ ?_ ?_ (hqg hbT)
      · intro e; injection e with e; exact hap.2.1 e.symm
      · intro r e1 e; injection e with e; subst e; have := (ElT.of_row hatj1.2.2.1 e1).same hbT; cases this
      · intro r e1 e; injection e with e; subst e; have := (ElT.of_row hatj1.2.2.2.1 e1).same hbT; cases this
      · intro e; injection e with e; exact hsg (hbT.same (e ▸ (sum_blk hatj1.2.2.2.2).2))
  · unfold ApartG
    rw [List.pairwise_iff_getElem]
    intro p q hp hq hpq
    have hp' : p < ms.length := by simpa using hp
    have hq' : q < ms.length := by simpa using hq
    have hap := h.2.2.at_ hp' hq' (by omega)
    have hnew : ∀ (j : Nat) (hj : j < ms.length), i ≠ j → ∀ g, ev'.ownBlock = some g → ms[j].1.ev.ownBlock ≠ some g := by
      intro j hj hij g e1 e2
      rcases hor with ho | ho
      · rw [e1] at ho
        have := h.2.2.at_ hi hj hij
        rw [hmi] at this
        exact this.1 g ho.symm e2
      · rw [e1] at ho
        injection ho with ho
        have := (row_lt (h.2.1 ms[j] (List.getElem_mem _)).2.2.2.1 e2).2
        omega
    rw [List.getElem_set, List.getElem_set]
    split
    case isTrue h1 =>
      subst h1
      rw [if_neg (by omega)]
      rw [hmi] at hap
      exact ⟨hnew q hq' (by omega), hap.2⟩
    case isFalse h1 =>
      split
      case isTrue h2 =>
        subst h2
        rw [hmi] at hap
        exact ⟨fun g e1 e2 => hnew p hp' (by omega) g e2 e1, hap.2⟩
      case isFalse h2 => exact hap

/-! ### the map of places -/
def klOf (k : List Lb) : Lit := .string (keyB k)
theorem klOf_inj {a b : List Lb} (h : klOf a = klOf b) : a = b := by
  unfold klOf at h
  injection h with h
  exact keyB_inj h
def MapOf (D : DataW Unit) (G : List Grp) : Prop :=
  IsMap D ∧ ∀ key : List Lb, has D (klOf key) = decide (key ∈ keysOf G) ∧ ∀ i : Nat, (keysOf G)[i]? = some key → D.atKey (klOf key) (.lit (.int .i64 0)) = .lit (.int .i64 i)
theorem MapOf.empty : MapOf (.map []) [] := ⟨isMap_empty, fun key => ⟨by rw [has_eq]; simp [keysOf], fun i h => by simp [keysOf] at h⟩⟩
theorem isKey_klOf (k : List Lb) : WideAt.IsKeyLit (klOf k) := by simp [klOf, WideAt.IsKeyLit]
theorem MapOf.put {D : DataW Unit} {G : List Grp} (h : MapOf D G) {key : List Lb} (hk : key ∉ keysOf G) (l : List (Value × El)) : MapOf (D.put (klOf key) (.lit (.int .i64 G.length))) (G ++ [(key, l)]) := by
  refine ⟨h.1.put _ _, fun k => ?_⟩
  have hkeys : keysOf (G ++ [(key, l)]) = keysOf G ++ [key] := by simp [keysOf]
  have hlen : (keysOf G).length = G.length := by simp [keysOf]
  rw [hkeys]
  by_cases e : k = key
  · subst e
    refine ⟨by rw [has_put_same h.1 (isKey_klOf k)]; simp, fun i hi => ?_⟩
    rw [atKey_put_same h.1 (isKey_klOf k)]
    rw [List.getElem?_append] at hi
    split at hi
    · exact absurd (List.mem_of_getElem? hi) hk
    · have : i - (keysOf G).length = 0 := by
        rcases Nat.eq_zero_or_pos (i - (keysOf G).length) with h0 | h0
        · exact h0
        · rw [List.getElem?_eq_none (by simp; omega)] at hi; cases hi
      have : i = G.length := by omega
      rw [this]
  · have hne : klOf k ≠ klOf key := fun x => e (klOf_inj x)
    refine ⟨by rw [has_put_other hne, (h.2 k).1]; simp [e], fun i hi => ?_⟩
    rw [atKey_put_other hne]
    refine (h.2 k).2 i ?_
    rw [List.getElem?_append] at hi
    split at hi
    · exact hi
    · exfalso
      rcases Nat.eq_zero_or_pos (i - (keysOf G).length) with h0 | h0
      · rw [h0] at hi; simp at hi; exact e hi.symm
      · rw [List.getElem?_eq_none (by simp; omega)] at hi; cases hi
theorem MapOf.turned {D : DataW Unit} {G G' : List Grp} (h : MapOf D G) (hk : keysOf G' = keysOf G) : MapOf D G' := by
  unfold MapOf at *
  rw [hk]
  exact h
end Go.Proofs.YtefdoineacfbhaaGreatDoor
