/- The key of a list of labels tells the list. No program in sight. -/
import Derived.Test.YtefdoineacfbhaaGreatDoorKey
namespace Go.Proofs.YtefdoineacfbhaaGreatDoor
open Go Go.Proofs Go.Shelf Go.RowKit Go.Lib Go.Sort

def digVal (l : List UInt8) : Nat := l.foldl (fun a d => a * 10 + (d.toNat - 48)) 0

theorem decDigits_val (u : Nat) : digVal (decDigits u) = u ∧ ∀ d ∈ decDigits u, d ≠ 58 := by
  induction u using Nat.strongRecOn with
  | _ u ih =>
    rw [decDigits]
    split
    case isTrue h =>
      have hd : (UInt8.ofNat (48 + u)).toNat = 48 + u := by simp; omega
      refine ⟨by simp [digVal]; omega, ?_⟩
      intro d hm
      rw [List.mem_singleton] at hm
      subst hm
      intro he
      have := congrArg UInt8.toNat he
      rw [hd] at this
      have h58 : (58 : UInt8).toNat = 58 := rfl
      omega
    case isFalse h =>
      obtain ⟨i1, i2⟩ := ih (u / 10) (by omega)
      have hd : (UInt8.ofNat (48 + u % 10)).toNat = 48 + u % 10 := by simp; omega
      refine ⟨?_, ?_⟩
      · unfold digVal at *
        rw [List.foldl_append, i1]
        simp only [List.foldl_cons, List.foldl_nil, hd]
        omega
      · intro d hm
        rw [List.mem_append] at hm
        rcases hm with hm | hm
        · exact i2 d hm
        · rw [List.mem_singleton] at hm
          subst hm
          intro he
          have := congrArg UInt8.toNat he
          rw [hd] at this
          have h58 : (58 : UInt8).toNat = 58 := rfl
          omega

theorem cut_at {x : UInt8} : ∀ {a b r s : List UInt8}, (∀ d ∈ a, d ≠ x) → (∀ d ∈ b, d ≠ x) → a ++ x :: r = b ++ x :: s → a = b ∧ r = s := by
  intro a
  induction a with
  | nil =>
    intro b r s _ hb h
    cases b with
    | nil => simpa using h
    | cons d b => simp at h; exact absurd h.1.symm (hb d (by simp))
  | cons c a ih =>
    intro b r s ha hb h
    cases b with
    | nil => simp at h; exact absurd h.1 (ha c (by simp))
    | cons d b =>
      simp at h
      obtain ⟨e1, e2⟩ := ih (fun d hd => ha d (by simp [hd])) (fun d hd => hb d (by simp [hd])) h.2
      exact ⟨by rw [h.1, e1], e2⟩

theorem field_cut {s t : ByteArray} {r q : List UInt8} (h : fieldB s ++ r = fieldB t ++ q) : s = t ∧ r = q := by
  unfold fieldB at h
  rw [itoa_nonneg, itoa_nonneg, List.append_assoc, List.append_assoc, List.cons_append, List.cons_append] at h
  obtain ⟨h1, h2⟩ := cut_at (decDigits_val _).2 (decDigits_val _).2 h
  have hs : s.size = t.size := by rw [← (decDigits_val s.size).1, h1, (decDigits_val t.size).1]
  have hl : s.data.toList.length = t.data.toList.length := by
    rw [Array.length_toList, Array.length_toList]; exact hs
  obtain ⟨h3, h4⟩ := List.append_inj h2 hl
  refine ⟨?_, h4⟩
  have : s.data = t.data := Array.ext' h3
  cases s; cases t; simpa using this

theorem keyB_inj : ∀ {a b : List Lb}, keyB a = keyB b → a = b := by
  have hne : ∀ (l : Lb) (r : List UInt8), labelB l ++ r ≠ [] := by
    intro l r h
    have : (labelB l).length = 0 := by
      have := congrArg List.length h
      simp at this
      simp [this.1]
    unfold labelB fieldB at this
    simp at this
  intro a
  induction a with
  | nil =>
    intro b h
    cases b with
    | nil => rfl
    | cons l b => exact absurd h.symm (by unfold keyB; rw [List.flatMap_cons]; exact hne _ _)
  | cons l a ih =>
    intro b h
    cases b with
    | nil => exact absurd h (by unfold keyB; rw [List.flatMap_cons]; exact hne _ _)
    | cons m b =>
      unfold keyB at h
      rw [List.flatMap_cons, List.flatMap_cons] at h
      unfold labelB at h
      rw [List.append_assoc, List.append_assoc] at h
      obtain ⟨e1, h⟩ := field_cut h
      obtain ⟨e2, h⟩ := field_cut h
      rw [ih h, Prod.ext e1 e2]

theorem keep_own (ls : List Lb) : keepP ls (ls.map (·.1)) false = ls := by
  unfold keepP
  rw [List.filter_eq_self]
  intro l hl
  unfold staysP
  simp only [Bool.false_eq_true, if_false, decide_eq_true_eq]
  exact List.mem_map_of_mem hl
end Go.Proofs.YtefdoineacfbhaaGreatDoor
