/- The canonical order is a total order: no program in sight. -/
import Derived.Test.YtefdoineacfbhaaGreatDoorCmp
import Derived.Test.YtefdoineacfbhaaGreatDoorSortPlain
import Derived.Shelf.SlSortCmp.Insertion
namespace Go.Proofs.YtefdoineacfbhaaGreatDoor
open Go.Sort

/-- A comparison that is a total order. -/
structure Tot {α : Type} (f : α → α → Int) : Prop where
  eq : ∀ x y, f x y = 0 ↔ x = y
  anti : ∀ x y, f y x = - f x y
  trans : ∀ x y z, f x y < 0 → f y z < 0 → f x z < 0
theorem Tot.refl {α : Type} {f : α → α → Int} (h : Tot f) (x : α) : f x x = 0 := (h.eq x x).2 rfl
theorem Tot.swo {α : Type} {f : α → α → Int} (h : Tot f) : SWO (ltOf f) where
  irrefl x := by unfold ltOf; rw [h.refl]; rfl
  trans x y z h1 h2 := by
    unfold ltOf at *
    rw [decide_eq_true_iff] at *
    exact h.trans x y z h1 h2
  ntrans x y z h1 h2 := by
    unfold ltOf at *
    rw [decide_eq_false_iff_not] at *
    intro h3
    rcases Int.lt_trichotomy (f x y) 0 with a | a | a
    · exact h1 a
    · obtain rfl := (h.eq x y).1 a; exact h2 h3
    · have a' : f y x < 0 := by rw [h.anti x y]; omega
      exact h2 (h.trans y x z a' h3)
theorem Tot.le_trans {α : Type} {f : α → α → Int} (h : Tot f) {x y z : α} (h1 : f x y ≤ 0) (h2 : f y z ≤ 0) : f x z ≤ 0 := by
  rcases Int.lt_or_eq_of_le h1 with a | a
  · rcases Int.lt_or_eq_of_le h2 with b | b
    · exact Int.le_of_lt (h.trans _ _ _ a b)
    · obtain rfl := (h.eq _ _).1 b; exact h1
  · obtain rfl := (h.eq _ _).1 a; exact h2
theorem Tot.comap {α β : Type} {f : α → α → Int} (h : Tot f) (g : β → α) : SWO (ltOf fun x y => f (g x) (g y)) where
  irrefl x := h.swo.irrefl (g x)
  trans x y z h1 h2 := h.swo.trans (g x) (g y) (g z) h1 h2
  ntrans x y z h1 h2 := h.swo.ntrans (g x) (g y) (g z) h1 h2

theorem bl_irrefl : ∀ x : List UInt8, Op.bytesLess x x = false
  | [] => rfl
  | a :: x => by simp [Op.bytesLess, bl_irrefl x]
theorem bl_trans : ∀ x y z : List UInt8, Op.bytesLess x y = true → Op.bytesLess y z = true → Op.bytesLess x z = true
  | [], [], _, h, _ => by simp [Op.bytesLess] at h
  | [], _ :: _, [], _, h => by simp [Op.bytesLess] at h
  | [], _ :: _, _ :: _, _, _ => rfl
  | _ :: _, [], _, h, _ => by simp [Op.bytesLess] at h
  | _ :: _, _ :: _, [], _, h => by simp [Op.bytesLess] at h
  | a :: x, b :: y, c :: z, h1, h2 => by
    simp only [Op.bytesLess, Bool.or_eq_true, Bool.and_eq_true, decide_eq_true_eq, beq_iff_eq] at *
    rcases h1 with h1 | ⟨h1, h1'⟩ <;> rcases h2 with h2 | ⟨h2, h2'⟩
    · exact .inl (UInt8.lt_trans h1 h2)
    · subst h2; exact .inl h1
    · subst h1; exact .inl h2
    · subst h1 h2; exact .inr ⟨rfl, bl_trans x y z h1' h2'⟩
theorem bl_tri : ∀ x y : List UInt8, Op.bytesLess x y = true ∨ x = y ∨ Op.bytesLess y x = true
  | [], [] => .inr (.inl rfl)
  | [], _ :: _ => .inl rfl
  | _ :: _, [] => .inr (.inr rfl)
  | a :: x, b :: y => by
    simp only [Op.bytesLess, Bool.or_eq_true, Bool.and_eq_true, decide_eq_true_eq, beq_iff_eq]
    rcases (show a < b ∨ a = b ∨ b < a from by
      rcases Nat.lt_trichotomy a.toNat b.toNat with h | h | h
      · exact .inl (UInt8.lt_iff_toNat_lt.2 h)
      · exact .inr (.inl (UInt8.toNat_inj.1 h))
      · exact .inr (.inr (UInt8.lt_iff_toNat_lt.2 h))) with h | h | h
    · exact .inl (.inl h)
    · subst h
      rcases bl_tri x y with h | h | h
      · exact .inl (.inr ⟨rfl, h⟩)
      · exact .inr (.inl (by rw [h]))
      · exact .inr (.inr (.inr ⟨rfl, h⟩))
    · exact .inr (.inr (.inl h))
theorem bl_asymm (x y : List UInt8) (h : Op.bytesLess x y = true) : Op.bytesLess y x = false := by
  cases h2 : Op.bytesLess y x with
  | false => rfl
  | true => have := bl_trans x y x h h2; rw [bl_irrefl] at this; cases this

theorem cmpS_tot : Tot cmpS where
  eq x y := by
    unfold cmpS ltB
    constructor
    · intro h
      split at h
      · omega
      · split at h
        · assumption
        · omega
    · rintro rfl
      rw [if_neg (by rw [bl_irrefl]; decide), if_pos rfl]
  anti x y := by
    unfold cmpS ltB
    rcases bl_tri x.toList y.toList with h | h | h
    · have h2 := bl_asymm _ _ h
      have h3 : ¬ y = x := fun e => by subst e; rw [bl_irrefl] at h; cases h
      rw [if_pos h, if_neg (by rw [h2]; decide), if_neg h3]; rfl
    · obtain rfl := toList_inj.1 h
      rw [if_neg (by rw [bl_irrefl]; decide), if_pos rfl]; rfl
    · have h2 := bl_asymm _ _ h
      have h3 : ¬ x = y := fun e => by subst e; rw [bl_irrefl] at h; cases h
      rw [if_pos h, if_neg (by rw [h2]; decide), if_neg h3]
  trans x y z h1 h2 := by
    have e : ∀ a b, cmpS a b < 0 → Op.bytesLess a.toList b.toList = true := fun a b h => by
      unfold cmpS ltB at h
      split at h
      · assumption
      · split at h <;> omega
    unfold cmpS ltB
    rw [if_pos (bl_trans _ _ _ (e _ _ h1) (e _ _ h2))]
    decide

theorem orI_eq (x y : Int) : orI x y = 0 ↔ x = 0 ∧ y = 0 := by
  unfold orI; split <;> omega
theorem orI_neg (x y : Int) : orI x y < 0 ↔ x < 0 ∨ (x = 0 ∧ y < 0) := by
  unfold orI; split <;> omega
theorem cmpLb_tot : Tot cmpLb where
  eq x y := by
    unfold cmpLb
    rw [orI_eq, cmpS_tot.eq, cmpS_tot.eq]
    constructor
    · rintro ⟨h1, h2⟩; exact Prod.ext h1 h2
    · rintro rfl; exact ⟨rfl, rfl⟩
  anti x y := by
    unfold cmpLb orI
    rw [cmpS_tot.anti x.1 y.1, cmpS_tot.anti x.2 y.2]
    split <;> split <;> omega
  trans x y z h1 h2 := by
    unfold cmpLb at *
    rw [orI_neg] at *
    rcases h1 with h1 | ⟨h1, h1'⟩ <;> rcases h2 with h2 | ⟨h2, h2'⟩
    · exact .inl (cmpS_tot.trans _ _ _ h1 h2)
    · rw [(cmpS_tot.eq _ _).1 h2] at h1; exact .inl h1
    · rw [← (cmpS_tot.eq _ _).1 h1] at h2; exact .inl h2
    · refine .inr ⟨?_, cmpS_tot.trans _ _ _ h1' h2'⟩
      rw [cmpS_tot.eq] at *
      rw [h1, h2]

theorem cmpLs_eq : ∀ x y, cmpLs x y = 0 ↔ x = y
  | [], [] => by simp [cmpLs]
  | [], _ :: _ => by simp [cmpLs]
  | _ :: _, [] => by simp [cmpLs]
  | a :: x, b :: y => by
    rw [cmpLs]
    split
    · rename_i h
      obtain rfl := (cmpLb_tot.eq _ _).1 h
      rw [cmpLs_eq x y]; simp
    · rename_i h
      constructor
      · intro h2; exact absurd h2 h
      · intro h2
        injection h2 with h2 h3
        subst h2
        exact absurd (cmpLb_tot.refl _) h
theorem cmpLs_anti : ∀ x y, cmpLs y x = - cmpLs x y
  | [], [] => rfl
  | [], _ :: _ => rfl
  | _ :: _, [] => rfl
  | a :: x, b :: y => by
    rw [cmpLs, cmpLs, cmpLb_tot.anti a b, cmpLs_anti x y]
    split <;> split <;> omega
theorem cmpLs_trans : ∀ x y z, cmpLs x y < 0 → cmpLs y z < 0 → cmpLs x z < 0
  | [], [], _, h, _ => by simp [cmpLs] at h
  | [], _ :: _, [], _, h => by simp [cmpLs] at h
  | [], _ :: _, _ :: _, _, _ => by simp [cmpLs]
  | _ :: _, [], _, h, _ => by simp [cmpLs] at h
  | _ :: _, _ :: _, [], _, h => by simp [cmpLs] at h
  | a :: x, b :: y, c :: z, h1, h2 => by
    rw [cmpLs] at *
    by_cases e1 : cmpLb a b = 0
    · rw [if_pos e1] at h1
      obtain rfl := (cmpLb_tot.eq _ _).1 e1
      by_cases e2 : cmpLb a c = 0
      · rw [if_pos e2] at h2 ⊢
        exact cmpLs_trans x y z h1 h2
      · rw [if_neg e2] at h2 ⊢
        exact h2
    · rw [if_neg e1] at h1
      by_cases e2 : cmpLb b c = 0
      · obtain rfl := (cmpLb_tot.eq _ _).1 e2
        rw [if_neg e1]; exact h1
      · rw [if_neg e2] at h2
        have h3 := cmpLb_tot.trans _ _ _ h1 h2
        rw [if_neg (by omega)]; exact h3
theorem cmpLs_tot : Tot cmpLs := ⟨cmpLs_eq, cmpLs_anti, cmpLs_trans⟩
end Go.Proofs.YtefdoineacfbhaaGreatDoor
