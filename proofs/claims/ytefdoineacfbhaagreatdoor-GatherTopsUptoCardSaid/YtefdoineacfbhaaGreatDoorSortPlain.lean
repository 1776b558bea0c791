/- Plain laws of stable sorting by merges: no program in sight. -/
import Derived.Sort.WalkA
import Derived.Sort.Lot0
import Derived.Sort.Statements
namespace Go.Proofs.YtefdoineacfbhaaGreatDoor
open Go.Sort
section
variable {α : Type} (lt : α → α → Bool)

/-- The stable merge. -/
def mrg : List α → List α → List α
  | [], r => r
  | x :: l, [] => x :: l
  | x :: l, y :: r => if lt y x then y :: mrg (x :: l) r else x :: mrg l (y :: r)
termination_by l r => l.length + r.length

def ins (x : α) : List α → List α
  | [] => [x]
  | y :: r => if lt y x then y :: ins x r else x :: y :: r
/-- The stable sort. -/
def isort : List α → List α
  | [] => []
  | x :: l => ins lt x (isort l)

theorem mrg_nil_left (r : List α) : mrg lt [] r = r := by rw [mrg]
theorem mrg_nil_right (l : List α) : mrg lt l [] = l := by cases l <;> rw [mrg]
theorem mrg_one (x : α) (r : List α) : mrg lt [x] r = ins lt x r := by
  induction r with
  | nil => rw [mrg]; rfl
  | cons y r ih =>
    rw [mrg, ins]
    split
    · rw [ih]
    · rw [mrg_nil_left]

variable {lt}
theorem mrg_ins (hO : SWO lt) (x : α) : ∀ (n : Nat) (A B : List α), A.length + B.length ≤ n → mrg lt (ins lt x A) B = ins lt x (mrg lt A B) := by
  intro n
  induction n with
  | zero =>
    intro A B h
    obtain rfl : A = [] := List.eq_nil_of_length_eq_zero (by omega)
    obtain rfl : B = [] := List.eq_nil_of_length_eq_zero (by omega)
    rw [mrg_nil_right, mrg_nil_right]
  | succ n ih =>
    intro A B h
    cases B with
    | nil => rw [mrg_nil_right, mrg_nil_right]
    | cons y r =>
      cases A with
      | nil => rw [mrg_nil_left]; exact mrg_one lt x (y :: r)
      | cons a A =>
        simp only [List.length_cons] at h
        have e1 : ins lt x (a :: A) = if lt a x then a :: ins lt x A else x :: a :: A := rfl
        have e2 : mrg lt (a :: A) (y :: r) = if lt y a then y :: mrg lt (a :: A) r else a :: mrg lt A (y :: r) := by rw [mrg]
        rw [e1, e2]
        cases hax : lt a x with
        | true =>
          rw [if_pos rfl, mrg]
          cases hya : lt y a with
          | true =>
            rw [if_pos rfl, if_pos rfl]
            have : ins lt x (y :: mrg lt (a :: A) r) = y :: ins lt x (mrg lt (a :: A) r) := by rw [ins, if_pos (hO.trans _ _ _ hya hax)]
            rw [this, ← ih (a :: A) r (by simp only [List.length_cons]; omega), e1, hax, if_pos rfl]
          | false =>
            rw [if_neg (by decide), if_neg (by decide), ih A (y :: r) (by simp only [List.length_cons]; omega)]
            rw [ins, if_pos hax]
        | false =>
          rw [if_neg (by decide), mrg]
          cases hyx : lt y x with
          | true =>
            rw [if_pos rfl]
            have hya : lt y a = true := by
              cases hya : lt y a with
              | true => rfl
              | false => rw [hO.ntrans _ _ _ hya hax] at hyx; cases hyx
            rw [hya, if_pos rfl]
            have : ins lt x (y :: mrg lt (a :: A) r) = y :: ins lt x (mrg lt (a :: A) r) := by rw [ins, if_pos hyx]
            rw [this, ← ih (a :: A) r (by simp only [List.length_cons]; omega), e1, hax, if_neg (by decide)]
          | false =>
            rw [if_neg (by decide), e2]
            cases hya : lt y a with
            | true => rw [if_pos rfl, ins, if_neg (by rw [hyx]; decide)]
            | false => rw [if_neg (by decide), ins, if_neg (by rw [hax]; decide)]

theorem mrg_length : ∀ (n : Nat) (A B : List α), A.length + B.length ≤ n → (mrg lt A B).length = A.length + B.length := by
  intro n
  induction n with
  | zero =>
    intro A B h
    obtain rfl : A = [] := List.eq_nil_of_length_eq_zero (by omega)
    rw [mrg_nil_left]; simp
  | succ n ih =>
    intro A B h
    cases A with
    | nil => rw [mrg_nil_left]; simp
    | cons x A =>
      cases B with
      | nil => rw [mrg_nil_right]; simp
      | cons y B =>
        simp only [List.length_cons] at h
        rw [mrg]
        split
        · rw [List.length_cons, ih _ _ (by simp only [List.length_cons]; omega)]; simp only [List.length_cons]; omega
        · rw [List.length_cons, ih _ _ (by simp only [List.length_cons]; omega)]; simp only [List.length_cons]; omega

theorem mrg_isort (hO : SWO lt) (A B : List α) : mrg lt (isort lt A) (isort lt B) = isort lt (A ++ B) := by
  induction A with
  | nil => rw [isort, mrg_nil_left]; rfl
  | cons x A ih => rw [List.cons_append, isort, isort, mrg_ins hO x _ _ _ (Nat.le_refl _), ih]

theorem mrg_split : ∀ (n : Nat) (L1 R1 L2 R2 : List α), L1.length + R1.length ≤ n → (∀ x ∈ L1, ∀ y ∈ R2, lt y x = false) → (∀ y ∈ R1, ∀ x ∈ L2, lt y x = true) →
    mrg lt (L1 ++ L2) (R1 ++ R2) = mrg lt L1 R1 ++ mrg lt L2 R2 := by
  intro n
  induction n with
  | zero =>
    intro L1 R1 L2 R2 h _ _
    obtain rfl : L1 = [] := List.eq_nil_of_length_eq_zero (by omega)
    obtain rfl : R1 = [] := List.eq_nil_of_length_eq_zero (by omega)
    rw [mrg_nil_right]; rfl
  | succ n ih =>
    intro L1 R1 L2 R2 h hl hr
    cases L1 with
    | nil =>
      cases R1 with
      | nil => rw [mrg_nil_right]; rfl
      | cons y R1 =>
        rw [mrg_nil_left]
        cases L2 with
        | nil => simp only [List.nil_append]; rw [mrg_nil_left, mrg_nil_left]
        | cons x L2 =>
          simp only [List.nil_append, List.cons_append]
          rw [mrg, if_pos (hr y (by simp) x (by simp))]
          have := ih [] R1 (x :: L2) R2 (by simp only [List.length_cons, List.length_nil] at *; omega) (by simp) (fun y hy x hx => hr y (by simp [hy]) x hx)
          rw [List.nil_append, mrg_nil_left] at this
          rw [this]
    | cons x L1 =>
      cases R1 with
      | nil =>
        rw [mrg_nil_right]
        cases R2 with
        | nil => simp only [List.append_nil]; rw [mrg_nil_right, mrg_nil_right]
        | cons y R2 =>
          simp only [List.nil_append, List.cons_append]
          rw [mrg, if_neg (by rw [hl x (by simp) y (by simp)]; decide)]
          have := ih L1 [] L2 (y :: R2) (by simp only [List.length_cons, List.length_nil] at *; omega) (fun a ha b hb => hl a (by simp [ha]) b hb) (by simp)
          rw [List.nil_append, mrg_nil_right] at this
          rw [this]
      | cons y R1 =>
        simp only [List.cons_append]
        rw [mrg, mrg]
        split
        · have := ih (x :: L1) R1 L2 R2 (by simp only [List.length_cons] at *; omega) hl (fun b hb => hr b (by simp [hb]))
          rw [List.cons_append] at this
          rw [this]; rfl
        · have := ih L1 (y :: R1) L2 R2 (by simp only [List.length_cons] at *; omega) (fun a ha => hl a (by simp [ha])) hr
          rw [List.cons_append] at this
          rw [this]; rfl

theorem ins_perm (x : α) (l : List α) : (ins lt x l).Perm (x :: l) := by
  induction l with
  | nil => exact .refl _
  | cons y r ih =>
    rw [ins]
    split
    · exact (ih.cons y).trans (List.Perm.swap ..)
    · exact .refl _
theorem isort_perm (l : List α) : (isort lt l).Perm l := by
  induction l with
  | nil => exact .refl _
  | cons x l ih => exact (ins_perm x _).trans (ih.cons x)
theorem isort_length (l : List α) : (isort lt l).length = l.length := (isort_perm l).length_eq

/-- Sorted: nothing later is less than something earlier. -/
def Srt (lt : α → α → Bool) (l : List α) : Prop := l.Pairwise fun a b => lt b a = false
theorem swo_asymm (hO : SWO lt) {a b : α} (h : lt a b = true) : lt b a = false := by
  cases hb : lt b a with
  | false => rfl
  | true => have := hO.trans _ _ _ h hb; rw [hO.irrefl] at this; cases this
theorem ins_srt (hO : SWO lt) (x : α) (l : List α) (h : Srt lt l) : Srt lt (ins lt x l) := by
  induction l with
  | nil => exact List.pairwise_singleton _ _
  | cons y r ih =>
    rw [ins]
    have hy := List.pairwise_cons.1 h
    split
    · rename_i hyx
      refine List.pairwise_cons.2 ⟨fun b hb => ?_, ih hy.2⟩
      rcases List.mem_cons.1 ((ins_perm x r).mem_iff.1 hb) with rfl | hb
      · exact swo_asymm hO hyx
      · exact hy.1 b hb
    · rename_i hyx
      refine List.pairwise_cons.2 ⟨fun b hb => ?_, h⟩
      rcases List.mem_cons.1 hb with rfl | hb
      · simpa using hyx
      · have hyx' : lt y x = false := by simpa using hyx
        exact hO.ntrans _ _ _ (hy.1 b hb) hyx'
theorem isort_srt (hO : SWO lt) (l : List α) : Srt lt (isort lt l) := by
  induction l with
  | nil => exact List.Pairwise.nil
  | cons x l ih => exact ins_srt hO x _ ih
theorem isort_snoc (hO : SWO lt) (l : List α) (y : α) : isort lt (l ++ [y]) = mrg lt (isort lt l) [y] := by
  rw [← mrg_isort hO]; rfl

/-- The run of one element into a sorted list from the right. -/
theorem mrg_last (z y : α) (S : List α) (hs : Srt lt (S ++ [z])) (hO : SWO lt) : mrg lt (S ++ [z]) [y] = if lt y z then mrg lt S [y] ++ [z] else S ++ [z] ++ [y] := by
  cases hyz : lt y z with
  | true =>
    rw [if_pos rfl]
    have := mrg_split (lt := lt) (S.length + 1) S [y] [z] [] (by simp) (by simp) (by simpa using hyz)
    rw [mrg_nil_right] at this
    simpa using this
  | false =>
    rw [if_neg (by decide)]
    have h1 : ∀ x ∈ S ++ [z], ∀ b ∈ [y], lt b x = false := by
      intro x hx b hb
      obtain rfl : b = y := by simpa using hb
      rcases List.mem_append.1 hx with hx | hx
      · have := (List.pairwise_append.1 hs).2.2 x hx z (by simp)
        exact hO.ntrans _ _ _ hyz this
      · obtain rfl : x = z := by simpa using hx
        exact hyz
    have := mrg_split (lt := lt) (S ++ [z]).length (S ++ [z]) [] [] [y] (by simp) h1 (by simp)
    rw [mrg_nil_right, mrg_nil_left] at this
    simpa using this

/-! ### the exchange, on lists -/
variable [Inhabited α]
theorem get_mid (d : Array α) (X Z : List α) (x : α) (h : d.toList = X ++ x :: Z) : d[X.length]! = x := by
  have hs : X.length < d.size := by have := congrArg List.length h; simp at this; omega
  rw [getElem!_pos d X.length hs]
  have : d.toList[X.length]? = some x := by rw [h]; simp
  rw [← Array.getElem_toList]
  exact Option.some.inj ((List.getElem?_eq_getElem (by simpa using hs)).symm.trans this)

theorem swp_list (d : Array α) (X M Z : List α) (x y : α) (i j : Nat) (hi : i = X.length) (hj : j = X.length + 1 + M.length) (h : d.toList = X ++ x :: (M ++ y :: Z)) :
    (swp d i j).toList = X ++ y :: (M ++ x :: Z) := by
  have e1 : d[i]! = x := by rw [hi]; exact get_mid d X _ x h
  have e2 : d[j]! = y := by
    have := get_mid d (X ++ x :: M) Z y (by rw [h]; simp)
    rw [show (X ++ x :: M).length = j from by simp; omega] at this
    exact this
  unfold swp
  rw [e1, e2, Array.toList_setIfInBounds, Array.toList_setIfInBounds, h, hi, List.set_append_right _ _ (Nat.le_refl _), Nat.sub_self, List.set_cons_zero, List.set_append_right _ _ (by omega),
    show j - X.length = M.length + 1 from by omega, List.set_cons_succ, List.set_append_right _ _ (Nat.le_refl _), Nat.sub_self, List.set_cons_zero]

theorem swp_comm (d : Array α) (i j : Nat) (_hi : i < d.size) (_hj : j < d.size) : swp d i j = swp d j i := by
  by_cases h : i = j
  · rw [h]
  · unfold swp
    rw [Array.setIfInBounds_comm _ _ h]

theorem insInner_list (hO : SWO lt) (a : Nat) (X Z : List α) (y : α) (hX : X.length = a) : ∀ (m : Nat) (S : List α) (Z : List α) (d : Array α), S.length = m → Srt lt S → d.toList = X ++ S ++ y :: Z →
    (insInner lt a (a + m) d).toList = X ++ mrg lt S [y] ++ Z := by
  intro m
  induction m with
  | zero =>
    intro S Z d hS _ hd
    obtain rfl : S = [] := List.eq_nil_of_length_eq_zero hS
    rw [insInner_stop lt a (a + 0) d (Or.inl (by omega)), hd, mrg_nil_left]
    simp
  | succ m ih =>
    intro S Z d hS hs hd
    obtain ⟨S', z, rfl⟩ : ∃ S' z, S = S' ++ [z] := ⟨S.dropLast, S.getLast (by intro h; simp [h] at hS), (List.dropLast_concat_getLast _).symm⟩
    have hS' : S'.length = m := by simpa using hS
    have hd1 : d.toList = (X ++ S') ++ z :: y :: Z := by rw [hd]; simp
    have e1 : d[a + m]! = z := by
      have := get_mid d (X ++ S') _ z hd1
      rwa [show (X ++ S').length = a + m from by simp; omega] at this
    have e2 : d[a + (m + 1)]! = y := by
      have := get_mid d (X ++ S' ++ [z]) Z y (by rw [hd1]; simp)
      rwa [show (X ++ S' ++ [z]).length = a + (m + 1) from by simp; omega] at this
    rw [mrg_last z y S' hs hO]
    cases hyz : lt y z with
    | true =>
      rw [insInner_go lt a (a + (m + 1)) d (by omega) (by rw [e2, show a + (m + 1) - 1 = a + m from by omega, e1]; exact hyz), show a + (m + 1) - 1 = a + m from by omega]
      have hsz : d.size = (X ++ S').length + 2 + Z.length := by have := congrArg List.length hd1; simp at this; simp; omega
      have hl := swp_list d (X ++ S') [] Z z y (a + m) (a + (m + 1)) (by simp; omega) (by simp; omega) (by rw [hd1]; rfl)
      rw [swp_comm d _ _ (by simp at hsz; omega) (by simp at hsz; omega)] at hl
      rw [if_pos rfl, ih S' (z :: Z) _ hS' (List.pairwise_append.1 hs).1 (by rw [hl]; simp)]
      simp
    | false =>
      rw [insInner_stop lt a (a + (m + 1)) d (Or.inr (by rw [e2, show a + (m + 1) - 1 = a + m from by omega, e1]; exact hyz)), if_neg (by decide), hd]
      simp

theorem insOuter_list (hO : SWO lt) (a b : Nat) (X Y : List α) (hX : X.length = a) : ∀ (B2 B1 : List α) (d : Array α) (i : Nat), i = a + B1.length → b = i + B2.length → d.toList = X ++ isort lt B1 ++ B2 ++ Y →
    (insOuter lt a b i d).toList = X ++ isort lt (B1 ++ B2) ++ Y := by
  intro B2
  induction B2 with
  | nil =>
    intro B1 d i hi hb hd
    rw [insOuter_stop lt a b i d (by simp at hb; omega), hd]
    simp
  | cons y B2 ih =>
    intro B1 d i hi hb hd
    rw [insOuter_go lt a b i d (by simp at hb; omega)]
    have h1 := insInner_list (lt := lt) hO a X [] y hX B1.length (isort lt B1) (B2 ++ Y) d (isort_length _) (isort_srt hO _) (by rw [hd]; simp)
    rw [← hi, ← isort_snoc hO] at h1
    have := ih (B1 ++ [y]) (insInner lt a i d) (i + 1) (by simp; omega) (by simp at hb; omega) (by rw [h1]; simp)
    rw [this]
    simp

/-- Go's insertion sort, on lists. -/
theorem insertionSort_list (hO : SWO lt) (a b : Nat) (X B Y : List α) (d : Array α) (hX : X.length = a) (hB : b = a + B.length) (hd : d.toList = X ++ B ++ Y) :
    (insertionSort lt d a b).toList = X ++ isort lt B ++ Y := by
  unfold insertionSort
  cases B with
  | nil => rw [insOuter_stop lt a b _ d (by simp at hB; omega), hd]; rfl
  | cons x B =>
    have := insOuter_list (lt := lt) hO a b X Y hX B [x] d (a + 1) rfl (by simp at hB; omega) (by rw [hd]; simp [isort, ins])
    rw [this]; rfl
end

section
variable {α : Type} (lt : α → α → Bool)
/-- Blocks of bs elements, each sorted. -/
def bsort (bs : Nat) (l : List α) : List α :=
  if l.length ≤ bs then isort lt l else if bs = 0 then l else isort lt (l.take bs) ++ bsort bs (l.drop bs)
termination_by l.length
decreasing_by simp; omega
variable {lt}
theorem bsort_short {bs : Nat} {l : List α} (h : l.length ≤ bs) : bsort lt bs l = isort lt l := by rw [bsort, if_pos h]
theorem bsort_long {bs : Nat} {l : List α} (hb : bs ≠ 0) (h : bs ≤ l.length) : bsort lt bs l = isort lt (l.take bs) ++ bsort lt bs (l.drop bs) := by
  by_cases he : l.length ≤ bs
  · have hl : l.length = bs := by omega
    rw [bsort_short he, List.take_of_length_le (by omega), List.drop_eq_nil_of_le (by omega), bsort_short (by simp)]
    simp [isort]
  · rw [bsort, if_neg he, if_neg hb]
theorem bsort_length (bs : Nat) : ∀ (n : Nat) (l : List α), l.length ≤ n → (bsort lt bs l).length = l.length := by
  intro n
  induction n with
  | zero => intro l h; rw [bsort_short (by omega), isort_length]
  | succ n ih =>
    intro l h
    by_cases h1 : l.length ≤ bs
    · rw [bsort_short h1, isort_length]
    · by_cases hb : bs = 0
      · rw [bsort, if_neg h1, if_pos hb]
      · rw [bsort_long hb (by omega), List.length_append, isort_length, ih _ (by simp; omega)]
        simp; omega
/-- Two blocks and what is behind them. -/
theorem bsort_two {bs : Nat} {l : List α} (hb : bs ≠ 0) (h : 2 * bs ≤ l.length) :
    bsort lt bs l = isort lt (l.take bs) ++ isort lt ((l.drop bs).take bs) ++ bsort lt bs (l.drop (2 * bs)) := by
  rw [bsort_long hb (by omega), bsort_long hb (show bs ≤ (l.drop bs).length by simp; omega), List.drop_drop, List.append_assoc, show bs + bs = 2 * bs from by omega]
theorem bsort_two_merged {bs : Nat} {l : List α} (hO : SWO lt) (hb : bs ≠ 0) (h : 2 * bs ≤ l.length) :
    bsort lt (2 * bs) l = mrg lt (isort lt (l.take bs)) (isort lt ((l.drop bs).take bs)) ++ bsort lt (2 * bs) (l.drop (2 * bs)) := by
  rw [bsort_long (by omega) h, mrg_isort hO, show 2 * bs = bs + bs from by omega, List.take_add]
theorem bsort_rest {bs : Nat} {l : List α} (hb : bs ≠ 0) (h : bs ≤ l.length) (h2 : l.length ≤ 2 * bs) :
    bsort lt bs l = isort lt (l.take bs) ++ isort lt (l.drop bs) := by
  rw [bsort_long hb h, bsort_short (show (l.drop bs).length ≤ bs by simp; omega)]
theorem bsort_rest_merged {bs : Nat} {l : List α} (hO : SWO lt) (h2 : l.length ≤ 2 * bs) :
    bsort lt (2 * bs) l = mrg lt (isort lt (l.take bs)) (isort lt (l.drop bs)) := by
  rw [bsort_short h2, mrg_isort hO, List.take_append_drop]
theorem bsort_one {bs : Nat} {l : List α} (h : l.length ≤ bs) : bsort lt (2 * bs) l = bsort lt bs l := by
  rw [bsort_short h, bsort_short (by omega)]
end

section
variable {α : Type} [Inhabited α]
/-- One exchange of swapRange. -/
theorem swapRange_step (dk : Array α) (X U M V Y : List α) (i p q : Nat) (hu : i < U.length) (hv : i < V.length) (hp : p = X.length + i) (hq : q = X.length + U.length + M.length + i)
    (hl : dk.toList = X ++ (V.take i ++ U.drop i) ++ M ++ (U.take i ++ V.drop i) ++ Y) :
    (swp dk p q).toList = X ++ (V.take (i + 1) ++ U.drop (i + 1)) ++ M ++ (U.take (i + 1) ++ V.drop (i + 1)) ++ Y := by
  rw [List.drop_eq_getElem_cons hu, List.drop_eq_getElem_cons hv] at hl
  have := swp_list dk (X ++ V.take i) (U.drop (i + 1) ++ M ++ U.take i) (V.drop (i + 1) ++ Y) U[i] V[i] p q (by simp; omega) (by simp; omega) (by rw [hl]; simp only [List.append_assoc, List.cons_append])
  rw [this, List.take_succ_eq_append_getElem hu, List.take_succ_eq_append_getElem hv]
  simp only [List.append_assoc, List.cons_append, List.nil_append]
end

section
variable {α : Type} [Inhabited α] {lt : α → α → Bool}
theorem get_in (d : Array α) (X B Y : List α) (h : d.toList = X ++ B ++ Y) (c : Nat) (hc : X.length ≤ c) (hc2 : c < X.length + B.length) : d[c]! = B[c - X.length]'(by omega) := by
  have hs : c < d.size := by have := congrArg List.length h; simp at this; omega
  rw [getElem!_pos d c hs, ← Array.getElem_toList]
  have h2 : d.toList[c]? = some (B[c - X.length]'(by omega)) := by
    rw [h, List.append_assoc, List.getElem?_append_right hc, List.getElem?_append_left (by omega), List.getElem?_eq_getElem (by omega)]
  exact Option.some.inj ((List.getElem?_eq_getElem (by simpa using hs)).symm.trans h2)
omit [Inhabited α] in
theorem srt_get (B : List α) (h : Srt lt B) (i j : Nat) (hij : i < j) (hj : j < B.length) : lt B[j] B[i] = false := List.pairwise_iff_getElem.1 h i j (by omega) hj hij
/-- A sorted stretch of the row. -/
theorem srt_row (d : Array α) (X B Y : List α) (hd : d.toList = X ++ B ++ Y) (h : Srt lt B) (c' c : Nat) (h1 : X.length ≤ c') (h2 : c' < c) (h3 : c < X.length + B.length) : lt d[c]! d[c']! = false := by
  rw [get_in d X B Y hd c (by omega) h3, get_in d X B Y hd c' h1 (by omega)]
  exact srt_get B h _ _ (by omega) (by omega)
theorem mono_left (hO : SWO lt) (d : Array α) (X Y B : List α) (x : α) (a m b : Nat) (hX : X.length = a) (ham : a + 1 = m) (hB : m + B.length = b) (hd : d.toList = X ++ [x] ++ B ++ Y) (hs : Srt lt B) :
    ∀ c' c, m ≤ c' → c' ≤ c → c < b → lt d[c]! d[a]! = true → lt d[c']! d[a]! = true := by
  intro c' c h1 h2 h3 h4
  rcases Nat.eq_or_lt_of_le h2 with rfl | h2
  · exact h4
  · have := srt_row (lt := lt) d (X ++ [x]) B Y hd hs c' c (by simp; omega) h2 (by simp; omega)
    cases h5 : lt d[c']! d[a]! with
    | true => rfl
    | false => rw [hO.ntrans _ _ _ this h5] at h4; cases h4

omit [Inhabited α] in
theorem mrg_point (x : α) (B : List α) (s : Nat) (hs : s ≤ B.length) (h1 : ∀ i (h : i < B.length), i < s → lt B[i] x = true) (h2 : ∀ i (h : i < B.length), s ≤ i → lt B[i] x = false) : mrg lt [x] B = B.take s ++ x :: B.drop s := by
  have e1 : ∀ y ∈ B.take s, ∀ z ∈ [x], lt y z = true := by
    intro y hy z hz
    obtain rfl : z = x := by simpa using hz
    obtain ⟨i, hi, rfl⟩ := List.mem_iff_getElem.1 hy
    rw [List.getElem_take]
    exact h1 i _ (by simp at hi; omega)
  have e2 : ∀ z ∈ [x], ∀ y ∈ B.drop s, lt y z = false := by
    intro z hz y hy
    obtain rfl : z = x := by simpa using hz
    obtain ⟨i, hi, rfl⟩ := List.mem_iff_getElem.1 hy
    rw [List.getElem_drop]
    exact h2 _ _ (by omega)
  have h3 := mrg_split (lt := lt) _ [] (B.take s) [x] [] (Nat.le_refl _) (by simp) e1
  have h4 := mrg_split (lt := lt) _ [x] [] [] (B.drop s) (Nat.le_refl _) e2 (by simp)
  have h5 := mrg_split (lt := lt) _ [] (B.take s) [x] (B.drop s) (Nat.le_refl _) (by simp) e1
  rw [mrg_nil_left, List.nil_append, List.take_append_drop] at h5
  rw [h5]
  simp only [List.nil_append, List.append_nil] at h4
  rw [h4, mrg_nil_right, mrg_nil_left]; rfl
theorem mrg_left (hO : SWO lt) (d : Array α) (X Y B : List α) (x : α) (a m b i : Nat) (hX : X.length = a) (ham : a + 1 = m) (hB : m + B.length = b) (hd : d.toList = X ++ [x] ++ B ++ Y) (hi : m ≤ i) (hib : i ≤ b)
    (h1 : ∀ c, m ≤ c → c < i → lt d[c]! d[a]! = true) (h2 : ∀ c, i ≤ c → c < b → lt d[c]! d[a]! = false) : mrg lt [x] B = B.take (i - m) ++ x :: B.drop (i - m) := by
  have ex : d[a]! = x := by
    have := get_mid d X (B ++ Y) x (by rw [hd]; simp)
    rwa [hX] at this
  have eb : ∀ j (h : j < B.length), d[m + j]! = B[j] := fun j h => by
    rw [get_in d (X ++ [x]) B Y hd (m + j) (by simp; omega) (by simp; omega)]
    congr 1; simp; omega
  refine mrg_point x B (i - m) (by omega) (fun j h hj => ?_) (fun j h hj => ?_)
  · rw [← eb j h, ← ex]; exact h1 _ (by omega) (by omega)
  · rw [← eb j h, ← ex]; exact h2 _ (by omega) (by omega)
/-- One step of a run to the right. -/
theorem run_right (dk : Array α) (X B Y : List α) (x : α) (s q : Nat) (hs : s < B.length) (hq : q = X.length + s) (h : dk.toList = X ++ B.take s ++ x :: (B.drop s ++ Y)) :
    (swp dk q (q + 1)).toList = X ++ B.take (s + 1) ++ x :: (B.drop (s + 1) ++ Y) := by
  rw [List.drop_eq_getElem_cons hs] at h
  have := swp_list dk (X ++ B.take s) [] (B.drop (s + 1) ++ Y) x B[s] q (q + 1) (by simp; omega) (by simp; omega) (by rw [h]; simp only [List.append_assoc, List.cons_append, List.nil_append])
  rw [this, List.take_succ_eq_append_getElem hs]
  simp only [List.append_assoc, List.cons_append, List.nil_append]

theorem mono_right (hO : SWO lt) (d : Array α) (X Y B : List α) (y : α) (a m : Nat) (hX : X.length = a) (hB : a + B.length = m) (hd : d.toList = X ++ B ++ Y) (hs : Srt lt B) :
    ∀ c' c, a ≤ c' → c' ≤ c → c < m → (!lt d[m]! d[c]!) = true → (!lt d[m]! d[c']!) = true := by
  intro c' c h1 h2 h3 h4
  rcases Nat.eq_or_lt_of_le h2 with rfl | h2
  · exact h4
  · have := srt_row (lt := lt) d X B Y hd hs c' c (by omega) h2 (by omega)
    have h4' : lt d[m]! d[c]! = false := by simpa using h4
    rw [hO.ntrans _ _ _ h4' this]; rfl
omit [Inhabited α] in
theorem mrg_point_right (y : α) (A : List α) (s : Nat) (hs : s ≤ A.length) (h1 : ∀ i (h : i < A.length), i < s → lt y A[i] = false) (h2 : ∀ i (h : i < A.length), s ≤ i → lt y A[i] = true) : mrg lt A [y] = A.take s ++ y :: A.drop s := by
  have e1 : ∀ z ∈ A.take s, ∀ b ∈ [y], lt b z = false := by
    intro z hz b hb
    obtain rfl : b = y := by simpa using hb
    obtain ⟨i, hi, rfl⟩ := List.mem_iff_getElem.1 hz
    rw [List.getElem_take]
    exact h1 i _ (by simp at hi; omega)
  have e2 : ∀ b ∈ [y], ∀ z ∈ A.drop s, lt b z = true := by
    intro b hb z hz
    obtain rfl : b = y := by simpa using hb
    obtain ⟨i, hi, rfl⟩ := List.mem_iff_getElem.1 hz
    rw [List.getElem_drop]
    exact h2 _ _ (by omega)
  have h4 := mrg_split (lt := lt) _ [] [y] (A.drop s) [] (Nat.le_refl _) (by simp) e2
  have h5 := mrg_split (lt := lt) _ (A.take s) [] (A.drop s) [y] (Nat.le_refl _) e1 (by simp)
  rw [mrg_nil_right, List.nil_append, List.take_append_drop] at h5
  rw [h5]
  simp only [List.nil_append, List.append_nil] at h4
  rw [h4, mrg_nil_right, mrg_nil_left]; rfl
theorem mrg_right (_hO : SWO lt) (d : Array α) (X Y B : List α) (y : α) (a m i : Nat) (hX : X.length = a) (hB : a + B.length = m) (hd : d.toList = X ++ B ++ y :: Y) (hi : a ≤ i) (him : i ≤ m)
    (h1 : ∀ c, a ≤ c → c < i → (!lt d[m]! d[c]!) = true) (h2 : ∀ c, i ≤ c → c < m → (!lt d[m]! d[c]!) = false) : mrg lt B [y] = B.take (i - a) ++ y :: B.drop (i - a) := by
  have ey : d[m]! = y := by
    have := get_mid d (X ++ B) Y y hd
    rwa [show (X ++ B).length = m from by simp; omega] at this
  have eb : ∀ j (h : j < B.length), d[a + j]! = B[j] := fun j h => by
    rw [get_in d X B (y :: Y) hd (a + j) (by omega) (by omega)]
    congr 1; omega
  refine mrg_point_right y B (i - a) (by omega) (fun j h hj => ?_) (fun j h hj => ?_)
  · have := h1 (a + j) (by omega) (by omega)
    rw [eb j h, ey] at this; simpa using this
  · have := h2 (a + j) (by omega) (by omega)
    rw [eb j h, ey] at this; simpa using this
/-- One step of a run to the left. -/
theorem run_left (dk : Array α) (X B Y : List α) (y : α) (s q : Nat) (hs : s < B.length) (hq : q = X.length + s) (h : dk.toList = X ++ B.take (s + 1) ++ y :: (B.drop (s + 1) ++ Y)) :
    (swp dk q (q + 1)).toList = X ++ B.take s ++ y :: (B.drop s ++ Y) := by
  rw [List.take_succ_eq_append_getElem hs] at h
  have := swp_list dk (X ++ B.take s) [] (B.drop (s + 1) ++ Y) B[s] y q (q + 1) (by simp; omega) (by simp; omega) (by rw [h]; simp only [List.append_assoc, List.cons_append, List.nil_append])
  rw [this, List.drop_eq_getElem_cons hs]
  simp only [List.append_assoc, List.cons_append, List.nil_append]

/-- Two sorted neighbours: no element of the later place is less than one of an earlier place of the same run, place by place. -/
theorem srt_le (hO : SWO lt) (d : Array α) (X B Y : List α) (hd : d.toList = X ++ B ++ Y) (h : Srt lt B) (c' c : Nat) (h1 : X.length ≤ c') (h2 : c' ≤ c) (h3 : c < X.length + B.length) : lt d[c]! d[c']! = false := by
  rcases Nat.eq_or_lt_of_le h2 with rfl | h2
  · exact hO.irrefl _
  · exact srt_row d X B Y hd h c' c h1 h2 h3
theorem mono_mid (hO : SWO lt) (d : Array α) (X Y A B : List α) (a m b p st r : Nat) (hX : X.length = a) (hA : a + A.length = m) (hB : m + B.length = b) (hd : d.toList = X ++ A ++ B ++ Y) (hsA : Srt lt A) (hsB : Srt lt B)
    (hsp : ∀ c, st ≤ c → c < r → a ≤ c ∧ c < m ∧ m ≤ p - c ∧ p - c < b) :
    ∀ c' c, st ≤ c' → c' ≤ c → c < r → (!lt d[p - c]! d[c]!) = true → (!lt d[p - c']! d[c']!) = true := by
  intro c' c h1 h2 h3 h4
  obtain ⟨p1, p2, p3, p4⟩ := hsp c (by omega) h3
  obtain ⟨q1, q2, q3, q4⟩ := hsp c' h1 (by omega)
  have e1 := srt_le hO d X A (B ++ Y) (by rw [hd]; simp) hsA c' c (by omega) h2 (by omega)
  have e2 := srt_le hO d (X ++ A) B Y hd hsB (p - c) (p - c') (by simp; omega) (by omega) (by simp; omega)
  have h4' : lt d[p - c]! d[c]! = false := by simpa using h4
  rw [hO.ntrans _ _ _ (hO.ntrans _ _ _ e2 h4') e1]; rfl
/-- What the middle search finds parts both runs. -/
theorem mid_split (hO : SWO lt) (d : Array α) (X Y A B : List α) (a m b p st r s : Nat) (hX : X.length = a) (hA : a + A.length = m) (hB : m + B.length = b) (hd : d.toList = X ++ A ++ B ++ Y) (hsA : Srt lt A) (hsB : Srt lt B)
    (hsp : ∀ s, st ≤ s → s ≤ r → s ≤ p + 1 ∧ a ≤ s ∧ s ≤ m ∧ m ≤ p + 1 - s ∧ p + 1 - s ≤ b) (hs1 : ∀ s, st = s → s = a ∨ p + 1 - s = b) (hs2 : ∀ s, r = s → s = m ∨ p + 1 - s = m)
    (h1 : st ≤ s) (h2 : s ≤ r) (hy : ∀ c, st ≤ c → c < s → (!lt d[p - c]! d[c]!) = true) (hn : ∀ c, s ≤ c → c < r → (!lt d[p - c]! d[c]!) = false) :
    mrg lt A B = mrg lt (A.take (s - a)) (B.take (p + 1 - s - m)) ++ mrg lt (A.drop (s - a)) (B.drop (p + 1 - s - m)) := by
  obtain ⟨q1, q2, q3, q4, q5⟩ := hsp s h1 h2
  have ea : ∀ j (h : j < A.length), d[a + j]! = A[j] := fun j h => by
    rw [get_in d X A (B ++ Y) (by rw [hd]; simp) (a + j) (by omega) (by omega)]; congr 1; omega
  have eb : ∀ j (h : j < B.length), d[m + j]! = B[j] := fun j h => by
    rw [get_in d (X ++ A) B Y hd (m + j) (by simp; omega) (by simp; omega)]; congr 1; simp; omega
  have key := mrg_split (lt := lt) _ (A.take (s - a)) (B.take (p + 1 - s - m)) (A.drop (s - a)) (B.drop (p + 1 - s - m)) (Nat.le_refl _) ?_ ?_
  · rw [List.take_append_drop, List.take_append_drop] at key; exact key
  · intro x hx y hyy
    obtain ⟨i, hi, rfl⟩ := List.mem_iff_getElem.1 hx
    obtain ⟨j, hj, rfl⟩ := List.mem_iff_getElem.1 hyy
    simp only [List.length_take, List.length_drop] at hi hj
    rw [List.getElem_take, List.getElem_drop, ← ea i (by omega), ← eb _ (by omega)]
    rcases Nat.lt_or_ge st s with hlt | hge
    · have := hy (s - 1) (by omega) (by omega)
      have h4 : lt d[p - (s - 1)]! d[s - 1]! = false := by simpa using this
      have e1 := srt_le hO d X A (B ++ Y) (by rw [hd]; simp) hsA (a + i) (s - 1) (by omega) (by omega) (by omega)
      have e2 := srt_le hO d (X ++ A) B Y hd hsB (p - (s - 1)) (m + (p + 1 - s - m + j)) (by simp; omega) (by omega) (by simp; omega)
      exact hO.ntrans _ _ _ (hO.ntrans _ _ _ e2 h4) e1
    · rcases hs1 s (by omega) with h | h <;> omega
  · intro y hyy x hx
    obtain ⟨i, hi, rfl⟩ := List.mem_iff_getElem.1 hx
    obtain ⟨j, hj, rfl⟩ := List.mem_iff_getElem.1 hyy
    simp only [List.length_take, List.length_drop] at hi hj
    rw [List.getElem_take, List.getElem_drop, ← ea _ (by omega), ← eb j (by omega)]
    rcases Nat.lt_or_ge s r with hlt | hge
    · have := hn s (Nat.le_refl _) hlt
      have h4 : lt d[p - s]! d[s]! = true := by simpa using this
      cases hc : lt d[m + j]! d[a + (s - a + i)]! with
      | true => rfl
      | false =>
        have e1 := srt_le hO d X A (B ++ Y) (by rw [hd]; simp) hsA s (a + (s - a + i)) (by omega) (by omega) (by omega)
        have e2 := srt_le hO d (X ++ A) B Y hd hsB (m + j) (p - s) (by simp; omega) (by omega) (by simp; omega)
        rw [hO.ntrans _ _ _ (hO.ntrans _ _ _ e2 hc) e1] at h4; cases h4
    · rcases hs2 s (by omega) with h | h <;> omega
end
end Go.Proofs.YtefdoineacfbhaaGreatDoor
