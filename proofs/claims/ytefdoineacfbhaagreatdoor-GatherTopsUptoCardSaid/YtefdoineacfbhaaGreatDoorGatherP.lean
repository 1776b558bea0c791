/- Groups and the best of them, over elements alone: plain. -/
import Derived.Test.YtefdoineacfbhaaGreatDoorHow
namespace Go.Proofs.YtefdoineacfbhaaGreatDoor
open Go Go.Proofs Go.RowKit Go.Lib Go.Sort

section
variable {K V W : Type} [DecidableEq K]
theorem addTo_map (h : V → W) (G : List (K × List V)) (k : K) (x : V) : (addTo G k x).map (fun g => (g.1, g.2.map h)) = addTo (G.map fun g => (g.1, g.2.map h)) k (h x) := by
  induction G with
  | nil => rfl
  | cons g G ih =>
    simp only [addTo, List.map_cons]
    split
    · simp
    · simp [ih]
theorem groupsOf_map (f : W → K) (h : V → W) (xs : List V) : (groupsOf (fun x => f (h x)) xs).map (fun g => (g.1, g.2.map h)) = groupsOf f (xs.map h) := by
  have : ∀ (xs : List V) (G : List (K × List V)), (xs.foldl (fun G x => addTo G (f (h x)) x) G).map (fun g => (g.1, g.2.map h)) = (xs.map h).foldl (fun G x => addTo G (f x) x) (G.map fun g => (g.1, g.2.map h)) := by
    intro xs
    induction xs with
    | nil => intro G; rfl
    | cons x xs ih => intro G; simp only [List.foldl_cons, List.map_cons, ih, addTo_map]
  exact this xs []

/-- Each group holds just what has its key. -/
def GroupsOk (f : V → K) (xs : List V) (G : List (K × List V)) : Prop :=
  (keysOf G).Nodup ∧ (∀ g ∈ G, g.2 = xs.filter (fun x => decide (f x = g.1)) ∧ g.2 ≠ []) ∧ ∀ x ∈ xs, f x ∈ keysOf G
theorem groupsOk_add {f : V → K} {xs : List V} {G : List (K × List V)} (h : GroupsOk f xs G) (x : V) : GroupsOk f (xs ++ [x]) (addTo G (f x) x) := by
  obtain ⟨h1, h2, h3⟩ := h
  refine ⟨addTo_nodup _ _ h1, ?_, ?_⟩
  · by_cases hk : f x ∈ keysOf G
    · obtain ⟨g0, hg0, e0⟩ := List.mem_map.1 hk
      obtain ⟨i, hi, rfl⟩ := List.mem_iff_getElem.1 hg0
      rw [addTo_at x h1 hi e0]
      intro g hg
      obtain ⟨j, hj, rfl⟩ := List.mem_iff_getElem.1 hg
      rw [List.getElem_set]
      have hj' : j < G.length := by simpa using hj
      split
      case isTrue hij =>
        refine ⟨?_, by simp⟩
        have := (h2 G[i] (List.getElem_mem _)).1
        simp only [List.filter_append]
        rw [this, e0]
        simp
      case isFalse hij =>
        have h4 := h2 G[j] (List.getElem_mem _)
        refine ⟨?_, h4.2⟩
        rw [List.filter_append]
        have hne : f x ≠ G[j].1 := by
          intro e
          have hp := List.pairwise_iff_getElem.1 (List.nodup_iff_pairwise_ne.1 h1)
          have hli : i < (keysOf G).length := by simpa [keysOf] using hi
          have hlj : j < (keysOf G).length := by simpa [keysOf] using hj'
          have e1 : (keysOf G)[i] = (keysOf G)[j] := by simp only [keysOf, List.getElem_map]; rw [e0, e]
          rcases Nat.lt_or_ge i j with hl | hl
          · exact hp i j hli hlj hl e1
          · exact hp j i hlj hli (by omega) e1.symm
        rw [h4.1]
        simp [hne]
    · rw [addTo_new x hk]
      intro g hg
      rcases List.mem_append.1 hg with hg | hg
      · have h4 := h2 g hg
        refine ⟨?_, h4.2⟩
        rw [List.filter_append]
        have hne : f x ≠ g.1 := fun e => hk (e ▸ List.mem_map_of_mem hg)
        rw [h4.1]
        simp [hne]
      · obtain rfl : g = (f x, [x]) := by simpa using hg
        refine ⟨?_, by simp⟩
        rw [List.filter_append]
        have : xs.filter (fun y => decide (f y = f x)) = [] := by
          rw [List.filter_eq_nil_iff]
          intro y hy e
          have := h3 y hy
          rw [of_decide_eq_true e] at this
          exact hk this
        rw [this]
        simp
  · intro y hy
    by_cases hk : f x ∈ keysOf G
    · obtain ⟨g0, hg0, e0⟩ := List.mem_map.1 hk
      obtain ⟨i, hi, rfl⟩ := List.mem_iff_getElem.1 hg0
      rw [addTo_at x h1 hi e0]
      have hkeys : keysOf (G.set i (f x, G[i].2 ++ [x])) = keysOf G := by
        unfold keysOf
        rw [List.map_set]
        apply List.ext_getElem
        · simp
        · intro j a b
          rw [List.getElem_set]
          split
          · subst_vars; simp [e0]
          · rfl
      rw [hkeys]
      rcases List.mem_append.1 hy with hy | hy
      · exact h3 y hy
      · obtain rfl : y = x := by simpa using hy
        exact hk
    · rw [addTo_new x hk]
      unfold keysOf
      rw [List.map_append]
      rcases List.mem_append.1 hy with hy | hy
      · exact List.mem_append_left _ (h3 y hy)
      · obtain rfl : y = x := by simpa using hy
        exact List.mem_append_right _ (by simp)
theorem groupsOk (f : V → K) (xs : List V) : GroupsOk f xs (groupsOf f xs) := by
  have : ∀ (n : Nat) (xs : List V), xs.length = n → GroupsOk f xs (groupsOf f xs) := by
    intro n
    induction n with
    | zero =>
      intro xs h
      obtain rfl := List.eq_nil_of_length_eq_zero h
      exact ⟨by simp [groupsOf, keysOf], (fun g hg => by simp [groupsOf] at hg), fun x hx => by cases hx⟩
    | succ n ih =>
      intro xs h
      obtain ⟨ys, y, rfl⟩ : ∃ ys y, xs = ys ++ [y] := ⟨xs.dropLast, xs.getLast (by intro e; simp [e] at h), (List.dropLast_concat_getLast _).symm⟩
      rw [groupsOf_snoc]
      exact groupsOk_add (ih ys (by simpa using h)) y
  exact this _ xs rfl
end

/-- The groups of a vector. -/
def groupsE (names : List ByteArray) (wo : Bool) (V : List El) : List (List Lb × List El) := groupsOf (fun x : El => keepP x.1 names wo) V
theorem groupsE_of (names : List ByteArray) (wo : Bool) (vs : List (Value × El)) : (groupsOf (fun x : Value × El => keepP x.2.1 names wo) vs).map (fun g => (g.1, g.2.map (·.2))) = groupsE names wo (vs.map (·.2)) :=
  groupsOf_map (fun x : El => keepP x.1 names wo) (fun x : Value × El => x.2) vs

/-- The best k of a list of elements, in order. -/
def entsE (k : Nat) : List El → List (El × Nat)
  | [] => []
  | x :: r => (x, k) :: entsE (k + 1) r
def betE (top : Bool) (a b : El × Nat) : Bool := lexLt (fun a b : El × Nat => lessF top b.1.2 a.1.2) (fun a b => decide (b.2 < a.2)) b a
def bestE (top : Bool) (k : Nat) (xs : List El) : List El := ((isort (betE top) (entsE 0 xs)).take k).map (·.1)
theorem entsE_of (k : Nat) (vs : List (Value × El)) : (entsFrom k vs).map (fun e : Ent => (e.1.2, e.2.1)) = entsE k (vs.map (·.2)) := by
  induction vs generalizing k with
  | nil => rfl
  | cons x vs ih => simp only [entsFrom, entsE, List.map_cons, ih]
theorem bestE_of (top : Bool) (k : Nat) (vs : List (Value × El)) : (bestL top k vs).map (·.2) = bestE top k (vs.map (·.2)) := by
  unfold bestL bestE
  rw [← entsE_of, ← isort_map (fun e : Ent => (e.1.2, e.2.1)) (betP top) (betE top) (fun x y => rfl), List.map_map, ← List.map_take, List.map_map]
  rfl
end Go.Proofs.YtefdoineacfbhaaGreatDoor
