/- GatherTops' law over lists: plain. -/
import Derived.Test.YtefdoineacfbhaaGreatDoorLawK
namespace Go.Proofs.YtefdoineacfbhaaGreatDoor
open Go Go.Proofs Go.RowKit Go.Lib Go.Sort

/-! ### vectors -/
def Uniq (l : List El) : Prop := l.Pairwise fun a b => a.1 ≠ b.1
theorem uniq_perm {a b : List El} (h : a.Perm b) : Uniq a ↔ Uniq b := h.pairwise_iff fun h e => h e.symm
theorem uniq_sub {a b : List El} (h : a.Sublist b) (hb : Uniq b) : Uniq a := List.Pairwise.sublist h hb

theorem dup_free : ∀ (l : List El), Srt ltE l → adjDup l = false → Uniq l
  | [], _, _ => List.Pairwise.nil
  | [a], _, _ => List.pairwise_singleton _ _
  | a :: b :: r, hs, hd => by
    simp only [adjDup, Bool.or_eq_false_iff, decide_eq_false_iff_not] at hd
    have hs' := List.pairwise_cons.1 hs
    have ih := dup_free (b :: r) hs'.2 hd.2
    refine List.pairwise_cons.2 ⟨fun c hc e => ?_, ih⟩
    have hab : cmpLs a.1 b.1 < 0 := by
      have h1 := hs'.1 b List.mem_cons_self
      unfold ltE at h1
      have h2 := of_decide_eq_false h1
      have h3 := cmpLs_anti a.1 b.1
      have h4 := hd.1
      omega
    rcases List.mem_cons.1 hc with hc | hc
    · subst hc
      rw [e] at hab
      have := (cmpLs_eq c.1 c.1).2 rfl
      omega
    · have hs2 := (List.pairwise_cons.1 hs'.2).1 c hc
      unfold ltE at hs2
      have h2 := of_decide_eq_false hs2
      rw [← e] at h2
      omega
theorem free_dup : ∀ (l : List El), Uniq l → adjDup l = false
  | [], _ => rfl
  | [a], _ => rfl
  | a :: b :: r, h => by
    have h' := List.pairwise_cons.1 h
    simp only [adjDup, Bool.or_eq_false_iff, decide_eq_false_iff_not]
    exact ⟨fun e => h'.1 b List.mem_cons_self ((cmpLs_eq _ _).1 e), free_dup (b :: r) h'.2⟩
theorem vec_some {l : List El} (hv : ∀ x ∈ l, labelsValid x.1 = true) (hd : Uniq l) : vectorP l = some (isort ltE l) := by
  unfold vectorP
  rw [if_pos (List.all_eq_true.2 fun x hx => hv x hx), if_neg]
  rw [free_dup _ ((uniq_perm (isort_perm l)).2 hd)]
  decide
theorem vec_inv {l V : List El} (h : vectorP l = some V) : V = isort ltE l ∧ (∀ x ∈ l, labelsValid x.1 = true) ∧ Uniq l := by
  unfold vectorP at h
  split at h
  · rename_i h1
    split at h
    · cases h
    · rename_i h2
      injection h with h
      refine ⟨h.symm, fun x hx => List.all_eq_true.1 h1 x hx, ?_⟩
      have := dup_free _ (isort_srt ltE_swo l) (by simpa using h2)
      exact (uniq_perm (isort_perm l)).1 this
  · cases h

theorem ltB_trans {a b c : ByteArray} (h : ltB a b = true) (h' : ltB b c = true) : ltB a c = true := bl_trans _ _ _ h h'
theorem validFrom_weak {p : Option Lb} {l : Lb} {r : List Lb} (h : validFrom (some l) r = true) (hp : aboveB p l = true) : validFrom p r = true := by
  cases r with
  | nil => rfl
  | cons x r =>
    simp only [validFrom, Bool.and_eq_true] at h ⊢
    refine ⟨h.1, ?_, h.2.2⟩
    cases p with
    | none => rfl
    | some q => exact ltB_trans hp h.2.1
theorem validFrom_filter (f : Lb → Bool) : ∀ (ls : List Lb) (p : Option Lb), validFrom p ls = true → validFrom p (ls.filter f) = true
  | [], _, _ => rfl
  | l :: r, p, h => by
    simp only [validFrom, Bool.and_eq_true] at h
    rw [List.filter_cons]
    split
    · simp only [validFrom, Bool.and_eq_true]
      exact ⟨h.1, h.2.1, validFrom_filter f r _ h.2.2⟩
    · exact validFrom_filter f r p (validFrom_weak h.2.2 h.2.1)
theorem keepP_valid {ls : List Lb} (h : labelsValid ls = true) (names : List ByteArray) (wo : Bool) : labelsValid (keepP ls names wo) = true := validFrom_filter _ _ _ h

/-! ### the best of a list -/
theorem bestE_split (top : Bool) (k : Nat) (xs : List El) : ∃ rest, (bestE top k xs ++ rest).Perm xs ∧ ∀ a ∈ bestE top k xs, ∀ b ∈ rest, lessF top b.2 a.2 = false := by
  have hb : SWO (betE top) := by
    have h1 : SWO (fun a b : El × Nat => lessF top b.1.2 a.1.2) := ⟨fun x => (lessF_swo top).irrefl _, fun x y z h1 h2 => (lessF_swo top).trans _ _ _ h2 h1, fun x y z h1 h2 => (lessF_swo top).ntrans _ _ _ h2 h1⟩
    have h2 : SWO (fun a b : El × Nat => decide (b.2 < a.2)) := ⟨fun x => by simp, fun x y z h1 h2 => by simp at *; omega, fun x y z h1 h2 => by simp at *; omega⟩
    exact flip_swo (lexLt_swo h1 h2)
  have hs := isort_srt hb (entsE 0 xs)
  have hm : ∀ (k : Nat) (xs : List El), (entsE k xs).map (·.1) = xs := by
    intro k xs
    induction xs generalizing k with
    | nil => rfl
    | cons x xs ih => simp only [entsE, List.map_cons, ih]
  refine ⟨((isort (betE top) (entsE 0 xs)).drop k).map (·.1), ?_, ?_⟩
  · unfold bestE
    rw [← List.map_append, List.take_append_drop]
    have := (isort_perm (lt := betE top) (entsE 0 xs)).map (fun x : El × Nat => x.1)
    rwa [hm] at this
  · intro a ha b hb'
    unfold bestE at ha
    obtain ⟨x, hx, rfl⟩ := List.mem_map.1 ha
    obtain ⟨y, hy, rfl⟩ := List.mem_map.1 hb'
    rw [← List.take_append_drop k (isort (betE top) (entsE 0 xs))] at hs
    have h1 := (List.pairwise_append.1 hs).2.2 x hx y hy
    unfold betE lexLt at h1
    simp only [Bool.or_eq_false_iff] at h1
    exact h1.1
theorem bestE_length (top : Bool) (k : Nat) (xs : List El) : (bestE top k xs).length = min k xs.length := by
  have hl : ∀ (k : Nat) (xs : List El), (entsE k xs).length = xs.length := by
    intro k xs
    induction xs generalizing k with
    | nil => rfl
    | cons x xs ih => simp only [entsE, List.length_cons, ih]
  unfold bestE
  rw [List.length_map, List.length_take, isort_length, hl]
theorem bestE_mem {top : Bool} {k : Nat} {xs : List El} {y : El} (h : y ∈ bestE top k xs) : y ∈ xs := by
  obtain ⟨rest, hp, _⟩ := bestE_split top k xs
  exact hp.mem_iff.1 (List.mem_append_left _ h)

/-! ### holds, worse -/
def holdsE : List El → El → Bool
  | [], _ => false
  | y :: r, x => if x.1 = y.1 then sameB x.2 y.2 else holdsE r x
theorem holdsP_eq (vs : List (Value × El)) (x : El) : holdsP vs x = holdsE (vs.map (·.2)) x := by
  induction vs with
  | nil => rfl
  | cons y vs ih => simp only [holdsP, holdsE, List.map_cons, ih]
theorem holdsE_mem {l : List El} (hu : Uniq l) {y : El} (h : y ∈ l) : holdsE l y = true := by
  induction l with
  | nil => cases h
  | cons x l ih =>
    have hu' := List.pairwise_cons.1 hu
    unfold holdsE
    rcases List.mem_cons.1 h with h | h
    · subst h
      rw [if_pos rfl]
      simp [sameB]
    · rw [if_neg (fun e => hu'.1 y h e.symm)]
      exact ih hu'.2 h
def worseE (l : List El) (yb : Nat) (most : Bool) : Bool := l.any fun x => lessF most yb x.2
theorem worseOne_eq (xb yb : Nat) (most : Bool) : worseOne xb yb most = lessF most yb xb := by
  unfold worseOne lessF nanB
  cases (FloatKind.f64.format.order yb yb != some Ordering.eq) <;> cases (FloatKind.f64.format.order xb xb != some Ordering.eq) <;> cases most <;> simp
theorem worseQ_eq (vs : List (Value × El)) (yb : Nat) (most : Bool) : worseQ vs yb most = worseE (vs.map (·.2)) yb most := by
  unfold worseQ worseE
  rw [List.any_map]
  congr 1
  funext x
  exact worseOne_eq _ _ _

/-! ### groups -/
section
variable {K V : Type} [DecidableEq K]
theorem flat_filter (f : V → K) (F : K × List V → List V) (G : List (K × List V)) (hn : (keysOf G).Nodup) (hF : ∀ g ∈ G, ∀ y ∈ F g, f y = g.1) {g0 : K × List V} (h0 : g0 ∈ G) :
    (G.flatMap F).filter (fun y => decide (f y = g0.1)) = F g0 := by
  induction G with
  | nil => cases h0
  | cons g G ih =>
    simp only [keysOf, List.map_cons, List.nodup_cons] at hn
    rw [List.flatMap_cons, List.filter_append]
    rcases List.mem_cons.1 h0 with h | h
    · subst h
      have h1 : (F g0).filter (fun y => decide (f y = g0.1)) = F g0 := List.filter_eq_self.2 fun y hy => decide_eq_true (hF g0 List.mem_cons_self y hy)
      have h2 : (G.flatMap F).filter (fun y => decide (f y = g0.1)) = [] := by
        rw [List.filter_eq_nil_iff]
        intro y hy e
        obtain ⟨g, hg, hy⟩ := List.mem_flatMap.1 hy
        have := hF g (List.mem_cons_of_mem _ hg) y hy
        rw [of_decide_eq_true e] at this
        exact hn.1 (this ▸ List.mem_map_of_mem hg)
      rw [h1, h2, List.append_nil]
    · have h1 : (F g).filter (fun y => decide (f y = g0.1)) = [] := by
        rw [List.filter_eq_nil_iff]
        intro y hy e
        have := hF g List.mem_cons_self y hy
        rw [of_decide_eq_true e] at this
        exact hn.1 (this ▸ List.mem_map_of_mem h)
      rw [h1, List.nil_append]
      exact ih hn.2 (fun g hg => hF g (List.mem_cons_of_mem _ hg)) h
theorem sum_parts (f : V → K) (Ks : List K) (hn : Ks.Nodup) (T : List V) (hT : ∀ y ∈ T, f y ∈ Ks) : (Ks.map fun k => (T.filter fun y => decide (f y = k)).length).sum = T.length := by
  induction T with
  | nil => induction Ks with
    | nil => rfl
    | cons k Ks ih => simp only [List.map_cons, List.sum_cons, List.filter_nil, List.length_nil]; rw [Nat.zero_add]; exact ih (List.nodup_cons.1 hn).2 (fun y hy => by cases hy)
  | cons y T ih =>
    have h1 := ih (fun z hz => hT z (List.mem_cons_of_mem _ hz))
    have hy := hT y List.mem_cons_self
    have key : ∀ (Ks : List K), Ks.Nodup → (Ks.map fun k => ((y :: T).filter fun y => decide (f y = k)).length).sum = (Ks.map fun k => (T.filter fun y => decide (f y = k)).length).sum + (if f y ∈ Ks then 1 else 0) := by
      intro Ks hn
      induction Ks with
      | nil => simp
      | cons k Ks ih2 =>
        have hn' := List.nodup_cons.1 hn
        simp only [List.map_cons, List.sum_cons]
        rw [ih2 hn'.2, List.filter_cons]
        by_cases e : f y = k
        · subst e
          simp [hn'.1]
          omega
        · have e' : ¬ k = f y := fun h => e h.symm
          by_cases hm : f y ∈ Ks
          · simp [e, hm]; omega
          · simp [e, hm]
    rw [key Ks hn, h1, if_pos hy, List.length_cons]
end

/-! ### the law -/
/-- What the law finds in memory: the vector, its groups, its best and its least. -/
structure TopsFacts (es : List El) (names : List ByteArray) (wo : Bool) (k : Nat) (Gs T L : List El) : Prop where
  lenT : T.length = L.length
  lenE : T.length ≤ es.length
  a_len : ∀ x ∈ Gs, (T.filter fun y => decide (keepP y.1 names wo = x.1)).length = min k (es.filter fun y => decide (keepP y.1 names wo = x.1)).length
  b_len : ∀ x ∈ Gs, (L.filter fun y => decide (keepP y.1 names wo = x.1)).length = (T.filter fun y => decide (keepP y.1 names wo = x.1)).length
  a_all : ∀ x ∈ Gs, ∀ y ∈ (T.filter fun y => decide (keepP y.1 names wo = x.1)), holdsE (es.filter fun y => decide (keepP y.1 names wo = x.1)) y = true
  b_a : ∀ x ∈ Gs, ∀ y ∈ (T.filter fun y => decide (keepP y.1 names wo = x.1)), holdsE (L.filter fun y => decide (keepP y.1 names wo = x.1)) y = true ∨ worseE (L.filter fun y => decide (keepP y.1 names wo = x.1)) y.2 false = false
  all_a : ∀ x ∈ Gs, ∀ y ∈ (es.filter fun y => decide (keepP y.1 names wo = x.1)), holdsE (T.filter fun y => decide (keepP y.1 names wo = x.1)) y = true ∨ worseE (T.filter fun y => decide (keepP y.1 names wo = x.1)) y.2 true = false
  all_b : ∀ x ∈ Gs, ∀ y ∈ (es.filter fun y => decide (keepP y.1 names wo = x.1)), holdsE (L.filter fun y => decide (keepP y.1 names wo = x.1)) y = true ∨ worseE (L.filter fun y => decide (keepP y.1 names wo = x.1)) y.2 false = false
  total : (Gs.map fun x => (T.filter fun y => decide (keepP y.1 names wo = x.1)).length).sum = T.length

theorem flat_sublist (top : Bool) (k : Nat) (G : List (List Lb × List El)) : ∃ rest, (G.flatMap (fun g => bestE top k g.2) ++ rest).Perm (G.flatMap (·.2)) := by
  induction G with
  | nil => exact ⟨[], by simp⟩
  | cons g G ih =>
    obtain ⟨r1, h1⟩ := ih
    obtain ⟨r2, h2, _⟩ := bestE_split top k g.2
    refine ⟨r2 ++ r1, ?_⟩
    simp only [List.flatMap_cons]
    have e1 : (bestE top k g.2 ++ G.flatMap (fun g => bestE top k g.2) ++ (r2 ++ r1)).Perm ((bestE top k g.2 ++ r2) ++ (G.flatMap (fun g => bestE top k g.2) ++ r1)) := by
      simp only [List.append_assoc]
      refine List.Perm.append_left _ ?_
      rw [← List.append_assoc, ← List.append_assoc]
      exact List.Perm.append_right _ List.perm_append_comm
    exact e1.trans (h2.append h1)

theorem tops_facts {es V : List El} {names : List ByteArray} {wo : Bool} {k : Nat} {rs : List Nat} (hV : vectorP es = some V) (hrs : rs.length = (groupsE names wo V).length) :
    ∃ Gs T L, vectorP (((groupsE names wo V).zip rs).map fun q => (q.1.1, q.2)) = some Gs ∧ vectorP ((groupsE names wo V).flatMap fun g => bestE true k g.2) = some T ∧
      vectorP ((groupsE names wo V).flatMap fun g => bestE false k g.2) = some L ∧ TopsFacts es names wo k Gs T L ∧ (∀ y ∈ T, y ∈ es) ∧ (∀ y ∈ L, y ∈ es) ∧ (∀ x ∈ Gs, ∃ y ∈ es, x.1 = keepP y.1 names wo) ∧ Gs.length ≤ es.length := by
  obtain ⟨hVe, hval, huq⟩ := vec_inv hV
  have hVp : V.Perm es := by rw [hVe]; exact isort_perm es
  have hok := groupsOk (fun x : El => keepP x.1 names wo) V
  obtain ⟨hG1, hG2, hG3⟩ := hok
  have hperm := groupsOf_perm (fun x : El => keepP x.1 names wo) V
  have hGdef : groupsE names wo V = groupsOf (fun x : El => keepP x.1 names wo) V := rfl
  rw [← hGdef] at hG1 hG2 hG3 hperm
  obtain ⟨G, hG⟩ : ∃ G, groupsE names wo V = G := ⟨_, rfl⟩
  rw [hG] at hG1 hG2 hG3 hperm hrs ⊢
  clear hGdef hG
  have hgm : ∀ g ∈ G, ∀ y ∈ g.2, y ∈ es ∧ keepP y.1 names wo = g.1 := fun g hg y hy => by
    rw [(hG2 g hg).1] at hy
    obtain ⟨h1, h2⟩ := List.mem_filter.1 hy
    exact ⟨hVp.mem_iff.1 h1, of_decide_eq_true h2⟩
  -- the groups
  have hkeys : ((G.zip rs).map fun q => ((q.1.1, q.2) : El)).map (·.1) = keysOf G := by
    rw [List.map_map]
    have : ((G.zip rs).map fun q => q.1.1) = keysOf G := by
      have h1 : (G.zip rs).map (fun q => q.1) = G := by rw [List.map_fst_zip (by omega)]
      have h2 : (G.zip rs).map (fun q => q.1.1) = ((G.zip rs).map (fun q => q.1)).map (·.1) := by rw [List.map_map]; rfl
      rw [h2, h1]; rfl
    exact this
  have hgv : ∀ x ∈ ((G.zip rs).map fun q => ((q.1.1, q.2) : El)), ∃ y ∈ es, x.1 = keepP y.1 names wo := fun x hx => by
    have h1 : x.1 ∈ keysOf G := by rw [← hkeys]; exact List.mem_map_of_mem hx
    obtain ⟨g, hg, e⟩ := List.mem_map.1 h1
    obtain ⟨y, hy⟩ := List.exists_mem_of_ne_nil _ (hG2 g hg).2
    have := hgm g hg y hy
    exact ⟨y, this.1, by rw [← e, this.2]⟩
  have hGs := vec_some (l := (G.zip rs).map fun q => ((q.1.1, q.2) : El)) (fun x hx => by
    obtain ⟨y, hy, e⟩ := hgv x hx
    rw [e]; exact keepP_valid (hval y hy) names wo) (by
      unfold Uniq
      have := List.pairwise_map.1 (by rw [hkeys]; exact List.nodup_iff_pairwise_ne.1 hG1 : List.Pairwise (· ≠ ·) (((G.zip rs).map fun q => ((q.1.1, q.2) : El)).map (·.1)))
      exact this)
  -- the best
  have hbest : ∀ top, (∀ y ∈ G.flatMap (fun g => bestE top k g.2), y ∈ es) ∧ Uniq (G.flatMap fun g => bestE top k g.2) := fun top => by
    refine ⟨fun y hy => ?_, ?_⟩
    · obtain ⟨g, hg, hy⟩ := List.mem_flatMap.1 hy
      exact (hgm g hg y (bestE_mem hy)).1
    · obtain ⟨rest, hr⟩ := flat_sublist top k G
      have h1 : Uniq (G.flatMap (fun g => bestE top k g.2) ++ rest) := (uniq_perm (hr.trans (hperm.trans hVp))).2 huq
      exact (List.pairwise_append.1 h1).1
  have hTv := fun top => vec_some (fun x hx => hval x ((hbest top).1 x hx)) (hbest top).2
  -- a group's own
  have hkeyF : ∀ top, ∀ g ∈ G, ∀ y ∈ bestE top k g.2, keepP y.1 names wo = g.1 := fun top g hg y hy => (hgm g hg y (bestE_mem hy)).2
  have hfil : ∀ top, ∀ g ∈ G, ((isort ltE (G.flatMap fun g => bestE top k g.2)).filter fun y => decide (keepP y.1 names wo = g.1)).Perm (bestE top k g.2) := fun top g hg => by
    have h1 := (isort_perm (lt := ltE) (G.flatMap fun g => bestE top k g.2)).filter (fun y => decide (keepP y.1 names wo = g.1))
    have h2 := flat_filter (fun y : El => keepP y.1 names wo) (fun g => bestE top k g.2) G hG1 (hkeyF top) hg
    rw [h2] at h1
    exact h1
  have hall : ∀ g ∈ G, (es.filter fun y => decide (keepP y.1 names wo = g.1)).Perm g.2 := fun g hg => by
    have h1 := hVp.symm.filter (fun y => decide (keepP y.1 names wo = g.1))
    rw [← (hG2 g hg).1] at h1
    exact h1
  have hgrp : ∀ x ∈ isort ltE ((G.zip rs).map fun q => ((q.1.1, q.2) : El)), ∃ g ∈ G, x.1 = g.1 := fun x hx => by
    have h1 : x.1 ∈ keysOf G := by rw [← hkeys]; exact List.mem_map_of_mem ((isort_perm _).mem_iff.1 hx)
    obtain ⟨g, hg, e⟩ := List.mem_map.1 h1
    exact ⟨g, hg, e.symm⟩
  have hrest : ∀ top, ∀ g ∈ G, ∀ y ∈ (es.filter fun y => decide (keepP y.1 names wo = g.1)),
      holdsE ((isort ltE (G.flatMap fun g => bestE top k g.2)).filter fun y => decide (keepP y.1 names wo = g.1)) y = true ∨ worseE ((isort ltE (G.flatMap fun g => bestE top k g.2)).filter fun y => decide (keepP y.1 names wo = g.1)) y.2 top = false := fun top g hg y hy => by
    have hy' := (hall g hg).mem_iff.1 hy
    obtain ⟨rest, hr, hw⟩ := bestE_split top k g.2
    have hu : Uniq ((isort ltE (G.flatMap fun g => bestE top k g.2)).filter fun y => decide (keepP y.1 names wo = g.1)) := uniq_sub List.filter_sublist ((uniq_perm (isort_perm _)).2 (hbest top).2)
    rcases List.mem_append.1 (hr.mem_iff.2 hy') with h | h
    · exact .inl (holdsE_mem hu ((hfil top g hg).mem_iff.2 h))
    · right
      unfold worseE
      rw [List.any_eq_false]
      intro x hx
      have := hw x ((hfil top g hg).mem_iff.1 hx) y h
      rw [this]; decide
  have hlen : ∀ top, (G.flatMap fun g => bestE top k g.2).length = (G.map fun g => min k g.2.length).sum := fun top => by
    rw [List.length_flatMap]
    congr 1
    apply List.map_congr_left
    intro g _
    exact bestE_length _ _ _
  refine ⟨_, _, _, hGs, hTv true, hTv false, ⟨?_, ?_, ?_, ?_, ?_, ?_, ?_, ?_, ?_⟩, ?_, ?_, ?_, ?_⟩
  · rw [isort_length, isort_length, hlen, hlen]
  · rw [isort_length]
    obtain ⟨rest, hr⟩ := flat_sublist true k G
    have h1 := (hr.trans (hperm.trans hVp)).length_eq
    rw [List.length_append] at h1
    omega
  · intro x hx
    obtain ⟨g, hg, e⟩ := hgrp x hx
    rw [e, (hfil true g hg).length_eq, (hall g hg).length_eq, bestE_length]
  · intro x hx
    obtain ⟨g, hg, e⟩ := hgrp x hx
    rw [e, (hfil true g hg).length_eq, (hfil false g hg).length_eq, bestE_length, bestE_length]
  · intro x hx y hy
    obtain ⟨g, hg, e⟩ := hgrp x hx
    rw [e] at hy ⊢
    refine holdsE_mem (uniq_sub List.filter_sublist huq) ((hall g hg).mem_iff.2 (bestE_mem ((hfil true g hg).mem_iff.1 hy)))
  · intro x hx y hy
    obtain ⟨g, hg, e⟩ := hgrp x hx
    rw [e] at hy ⊢
    exact hrest false g hg y ((hall g hg).mem_iff.2 (bestE_mem ((hfil true g hg).mem_iff.1 hy)))
  · intro x hx y hy
    obtain ⟨g, hg, e⟩ := hgrp x hx
    rw [e] at hy ⊢
    exact hrest true g hg y hy
  · intro x hx y hy
    obtain ⟨g, hg, e⟩ := hgrp x hx
    rw [e] at hy ⊢
    exact hrest false g hg y hy
  · have hp : ((isort ltE ((G.zip rs).map fun q => ((q.1.1, q.2) : El))).map (·.1)).Perm (keysOf G) := by
      have := (isort_perm (lt := ltE) ((G.zip rs).map fun q => ((q.1.1, q.2) : El))).map (fun x : El => x.1)
      rwa [hkeys] at this
    have h1 := sum_parts (fun y : El => keepP y.1 names wo) ((isort ltE ((G.zip rs).map fun q => ((q.1.1, q.2) : El))).map (·.1)) (hp.nodup_iff.2 hG1) (isort ltE (G.flatMap fun g => bestE true k g.2)) (fun y hy => by
      have hy' := (isort_perm _).mem_iff.1 hy
      refine hp.mem_iff.2 ?_
      obtain ⟨g, hg, hy'⟩ := List.mem_flatMap.1 hy'
      show keepP y.1 names wo ∈ keysOf G
      rw [hkeyF true g hg y hy']
      exact List.mem_map_of_mem hg)
    rw [List.map_map] at h1
    exact h1
  · intro y hy; exact (hbest true).1 y ((isort_perm _).mem_iff.1 hy)
  · intro y hy; exact (hbest false).1 y ((isort_perm _).mem_iff.1 hy)
  · intro x hx; exact hgv x ((isort_perm _).mem_iff.1 hx)
  · rw [isort_length, List.length_map, List.length_zip, hrs, Nat.min_self]
    have h1 := hperm.length_eq
    rw [hVp.length_eq] at h1
    have h2 : G.length ≤ (G.flatMap (·.2)).length := by
      clear h1 hperm hrs hkeys hgv hGs hbest hTv hkeyF hfil hall hgrp hrest hlen hG1 hG3 hgm
      induction G with
      | nil => simp
      | cons g G ih =>
        have h3 := ih (fun g hg => hG2 g (List.mem_cons_of_mem _ hg))
        have h4 := (hG2 g List.mem_cons_self).2
        have h5 : 0 < g.2.length := List.length_pos_iff.2 h4
        simp only [List.flatMap_cons, List.length_append, List.length_cons]
        omega
    omega
end Go.Proofs.YtefdoineacfbhaaGreatDoor
