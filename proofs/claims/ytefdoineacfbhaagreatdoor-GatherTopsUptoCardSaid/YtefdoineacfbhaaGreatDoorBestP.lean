/- The best of a list: plain. -/
import Derived.Test.YtefdoineacfbhaaGreatDoorPileU
namespace Go.Proofs.YtefdoineacfbhaaGreatDoor
open Go Go.Proofs Go.RowKit Go.Lib Go.Sort

section
variable {α : Type} {lt : α → α → Bool}
theorem srt_unique {a b : List α} (ht : ∀ x ∈ a, ∀ y ∈ a, lt x y = false → lt y x = false → x = y) (ha : Srt lt a) (hb : Srt lt b) (hp : a.Perm b) : a = b :=
  hp.eq_of_pairwise (fun x y hx hy h1 h2 => ht x hx y (hp.mem_iff.2 hy) h2 h1) ha hb
end

/-- The entries of a list: each with its place. -/
def entsFrom (k : Nat) : List (Value × El) → List Ent
  | [] => []
  | x :: r => (x, k, k) :: entsFrom (k + 1) r
theorem entsFrom_append (k : Nat) (a b : List (Value × El)) : entsFrom k (a ++ b) = entsFrom k a ++ entsFrom (k + a.length) b := by
  induction a generalizing k with
  | nil => rfl
  | cons x a ih => simp only [List.cons_append, entsFrom, ih, List.length_cons]; rw [show k + 1 + a.length = k + (a.length + 1) from by omega]
theorem entsFrom_map (k : Nat) (a : List (Value × El)) : (entsFrom k a).map (·.1) = a := by
  induction a generalizing k with
  | nil => rfl
  | cons x a ih => simp only [entsFrom, List.map_cons, ih]
theorem entsFrom_length (k : Nat) (a : List (Value × El)) : (entsFrom k a).length = a.length := by
  have := congrArg List.length (entsFrom_map k a)
  simpa using this
theorem entsFrom_at {k : Nat} {a : List (Value × El)} {e : Ent} (h : e ∈ entsFrom k a) : e.2.1 = e.2.2 ∧ k ≤ e.2.1 ∧ a[e.2.1 - k]? = some e.1 := by
  induction a generalizing k with
  | nil => cases h
  | cons x a ih =>
    rcases List.mem_cons.1 h with h | h
    · subst h; exact ⟨rfl, Nat.le_refl _, by simp⟩
    · obtain ⟨h1, h2, h3⟩ := ih h
      refine ⟨h1, by omega, ?_⟩
      rw [show e.2.1 - k = (e.2.1 - (k + 1)) + 1 from by omega]
      simpa using h3
theorem ents_total {top : Bool} {k : Nat} {a : List (Value × El)} {x y : Ent} (hx : x ∈ entsFrom k a) (hy : y ∈ entsFrom k a) (h1 : worseP top x y = false) (h2 : worseP top y x = false) : x = y := by
  obtain ⟨a1, a2, a3⟩ := entsFrom_at hx
  obtain ⟨b1, b2, b3⟩ := entsFrom_at hy
  have hat : x.2.1 = y.2.1 := by
    unfold worseP lexLt at h1 h2
    simp only [Bool.or_eq_false_iff, Bool.and_eq_false_iff, Bool.not_eq_false', decide_eq_false_iff_not] at h1 h2
    obtain ⟨h1, h1'⟩ := h1
    obtain ⟨h2, h2'⟩ := h2
    rw [h2] at h1'
    rw [h1] at h2'
    simp at h1' h2'
    omega
  rw [hat] at a3
  rw [b3] at a3
  injection a3 with a3
  obtain ⟨x1, x2, x3⟩ := x
  obtain ⟨y1, y2, y3⟩ := y
  simp_all

/-- Better: the other way round than worse. -/
def betP (top : Bool) (a b : Ent) : Bool := worseP top b a
theorem betP_swo (top : Bool) : SWO (betP top) := flip_swo (worseP_swo top)
/-- The best k of a list, in order. -/
def bestL (top : Bool) (k : Nat) (vs : List (Value × El)) : List (Value × El) := ((isort (betP top) (entsFrom 0 vs)).take k).map (·.1)

theorem ahead_worse {top : Bool} {a b : Ent} (h : aheadP top a b = false) : worseP top a b = false := by
  unfold aheadP lexLt at h
  simp only [Bool.or_eq_false_iff] at h
  exact h.1

/-- What is kept, in order, and what is left, none of which is better: that is the best. -/
theorem best_of {top : Bool} {k : Nat} {vs : List (Value × El)} {D R : List Ent} (hp : (D ++ R).Perm (entsFrom 0 vs)) (hs : D.Pairwise fun a b => aheadP top a b = false)
    (hr : ∀ e ∈ D, ∀ r ∈ R, aheadP top e r = false) (hk : D.length = min k vs.length) : bestL top k vs = D.map (·.1) := by
  have hS : Srt (betP top) (D ++ isort (betP top) R) := by
    refine List.pairwise_append.2 ⟨hs.imp fun h => ahead_worse h, isort_srt (betP_swo top) R, fun a ha b hb => ?_⟩
    exact ahead_worse (hr a ha b ((isort_perm R).mem_iff.1 hb))
  have hP : (isort (betP top) (entsFrom 0 vs)).Perm (D ++ isort (betP top) R) :=
    (isort_perm _).trans (hp.symm.trans ((isort_perm R).symm.append_left D))
  have e : isort (betP top) (entsFrom 0 vs) = D ++ isort (betP top) R := by
    refine srt_unique (fun x hx y hy h1 h2 => ?_) (isort_srt (betP_swo top) _) hS hP
    exact ents_total ((isort_perm _).mem_iff.1 hx) ((isort_perm _).mem_iff.1 hy) h2 h1
  unfold bestL
  rw [e]
  have hl : D.length + R.length = vs.length := by
    have := hp.length_eq
    rw [List.length_append, entsFrom_length] at this
    exact this
  congr 1
  rcases Nat.le_total k vs.length with h | h
  · rw [Nat.min_eq_left h] at hk
    rw [← hk]
    exact List.take_left
  · rw [Nat.min_eq_right h] at hk
    have hr0 : R = [] := List.eq_nil_of_length_eq_zero (by omega)
    subst hr0
    have : isort (betP top) ([] : List Ent) = [] := rfl
    rw [this, List.append_nil]
    exact List.take_of_length_le (by omega)

/-- A heap's round: an entry in, the first one out. -/
def KeptP (top : Bool) (vs : List (Value × El)) (i kk : Nat) (es R : List Ent) : Prop :=
  (es ++ R).Perm (entsFrom 0 (vs.take i)) ∧ es.length = min i kk ∧ (∀ e ∈ es, ∀ r ∈ R, aheadP top e r = false)
theorem kept_start (top : Bool) (vs : List (Value × El)) (kk : Nat) : KeptP top vs 0 kk [] [] := ⟨by simp [entsFrom], by simp, fun e he => by cases he⟩
theorem ents_take_succ {vs : List (Value × El)} {i : Nat} (hi : i < vs.length) : entsFrom 0 (vs.take (i + 1)) = entsFrom 0 (vs.take i) ++ [(vs[i], i, i)] := by
  rw [List.take_succ_eq_append_getElem hi, entsFrom_append, List.length_take, Nat.min_eq_left (by omega)]
  simp [entsFrom]
theorem kept_room {top : Bool} {vs : List (Value × El)} {i kk : Nat} {es R es' : List Ent} (h : KeptP top vs i kk es R) (hi : i < vs.length) (hr : es.length < kk) (hp : es'.Perm (es ++ [(vs[i], i, i)])) : KeptP top vs (i + 1) kk es' R := by
  obtain ⟨h1, h2, h3⟩ := h
  have hR : R = [] := by
    have hl := h1.length_eq
    rw [List.length_append, entsFrom_length, List.length_take] at hl
    exact List.eq_nil_of_length_eq_zero (by omega)
  subst hR
  refine ⟨?_, by have := hp.length_eq; rw [List.length_append, List.length_singleton] at this; omega, fun e _ r hr => by cases hr⟩
  rw [List.append_nil] at h1 ⊢
  rw [ents_take_succ hi]
  exact hp.trans (h1.append_right _)
theorem kept_full {top : Bool} {vs : List (Value × El)} {i kk : Nat} {es R es' es2 : List Ent} {e0 : Ent} (h : KeptP top vs i kk es R) (hi : i < vs.length) (hr : es.length = kk) (hp : es'.Perm (es ++ [(vs[i], i, i)]))
    (hroot : ∀ e ∈ es', aheadP top e e0 = false) (hp2 : (e0 :: es2).Perm es') : KeptP top vs (i + 1) kk es2 (e0 :: R) := by
  obtain ⟨h1, h2, h3⟩ := h
  have hl2 := hp2.length_eq
  have hl1 := hp.length_eq
  rw [List.length_append, List.length_singleton] at hl1
  rw [List.length_cons] at hl2
  refine ⟨?_, by omega, fun e he r hr => ?_⟩
  · rw [ents_take_succ hi]
    have a1 : (es2 ++ e0 :: R).Perm ((e0 :: es2) ++ R) := List.perm_middle
    have a2 : ((e0 :: es2) ++ R).Perm ((es ++ [(vs[i], i, i)]) ++ R) := (hp2.trans hp).append_right R
    have a3 : ((es ++ [(vs[i], i, i)]) ++ R).Perm ((es ++ R) ++ [(vs[i], i, i)]) := by
      rw [List.append_assoc, List.append_assoc]
      exact (List.perm_append_comm).append_left es
    exact a1.trans (a2.trans (a3.trans (h1.append_right _)))
  · have hes' : ∀ x, x ∈ e0 :: es2 → x ∈ es ∨ x = (vs[i], i, i) := fun x hx => by
      have := (hp2.trans hp).mem_iff.1 hx
      simpa using this
    have he' : e ∈ es' := hp2.mem_iff.1 (List.mem_cons_of_mem _ he)
    rcases List.mem_cons.1 hr with hr | hr
    · subst hr; exact hroot e he'
    · rcases hes' e (List.mem_cons_of_mem _ he) with h | h
      · exact h3 e h r hr
      · rcases hes' e0 List.mem_cons_self with h0 | h0
        · exact (aheadP_swo top).ntrans _ _ _ (hroot e he') (h3 e0 h0 r hr)
        · -- the new one stands twice: not so
          exfalso
          have hnd : ((e0 :: es2).map (fun x : Ent => x.2.1)).Nodup := by
            have q : ((e0 :: es2) ++ R).Perm (entsFrom 0 (vs.take (i + 1))) := by
              rw [ents_take_succ hi]
              have a2 : ((e0 :: es2) ++ R).Perm ((es ++ [(vs[i], i, i)]) ++ R) := (hp2.trans hp).append_right R
              have a3 : ((es ++ [(vs[i], i, i)]) ++ R).Perm ((es ++ R) ++ [(vs[i], i, i)]) := by
                rw [List.append_assoc, List.append_assoc]
                exact (List.perm_append_comm).append_left es
              exact a2.trans (a3.trans (h1.append_right _))
            have hn : ∀ (k : Nat) (a : List (Value × El)), ((entsFrom k a).map (fun x : Ent => x.2.1)).Nodup ∧ ∀ x ∈ entsFrom k a, k ≤ x.2.1 := by
              intro k a
              induction a generalizing k with
              | nil => exact ⟨by simp [entsFrom], fun x hx => by cases hx⟩
              | cons y a ih =>
                refine ⟨?_, fun x hx => ?_⟩
                · simp only [entsFrom, List.map_cons, List.nodup_cons]
                  refine ⟨fun hm => ?_, (ih (k + 1)).1⟩
                  obtain ⟨z, hz, hz2⟩ := List.mem_map.1 hm
                  have := (ih (k + 1)).2 z hz
                  omega
                · rcases List.mem_cons.1 hx with hx | hx
                  · subst hx; exact Nat.le_refl _
                  · have := (ih (k + 1)).2 x hx; omega
            have := (q.map (fun x : Ent => x.2.1)).nodup_iff.2 (hn 0 _).1
            rw [List.map_append] at this
            exact (List.nodup_append.1 this).1
          rw [List.map_cons, List.nodup_cons] at hnd
          apply hnd.1
          rw [h0, ← h]
          exact List.mem_map_of_mem he
end Go.Proofs.YtefdoineacfbhaaGreatDoor
