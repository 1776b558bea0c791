/- The order of floats: plain. -/
import Derived.Test.YtefdoineacfbhaaGreatDoorHeap
import Ieee.Arith
import GoSem.Extern.MathAsm
namespace Go.Proofs.YtefdoineacfbhaaGreatDoor
open Go.Sort Ieee

def cmpK : Option Int → Option Int → Option Ordering
  | some a, some b => some (compare a b)
  | _, _ => none

theorem signed_shift (s : Bool) (m k d : Nat) : signed s m (k + d) = signed s m k * 2 ^ d := by
  unfold signed
  have h : m <<< (k + d) = (m <<< k) * 2 ^ d := by
    rw [Nat.shiftLeft_eq, Nat.shiftLeft_eq, Nat.pow_add, Nat.mul_assoc]
  rw [h]
  cases s
  · simp
  · simp only [if_true]; rw [Int.neg_mul]; push_cast; rfl

theorem compare_scale (a b : Int) (d : Nat) : compare (a * 2 ^ d) (b * 2 ^ d) = compare a b := by
  have hp : (0 : Int) < 2 ^ d := Int.pow_pos (by decide)
  rcases Int.lt_trichotomy a b with h | h | h
  · have := Int.mul_lt_mul_of_pos_right h hp
    rw [Int.compare_eq_lt.2 h, Int.compare_eq_lt.2 this]
  · subst h; simp
  · have := Int.mul_lt_mul_of_pos_right h hp
    rw [Int.compare_eq_gt.2 h, Int.compare_eq_gt.2 this]

/-- A datum's key: from base B on, infinity standing at M + 1. -/
def keyD (B : Int) (M : Int) : Datum → Option Int
  | .nan .. => none
  | .infinity s => some (if s then -(M + 1) else M + 1)
  | .number s m i => some (signed s m (i - B).toNat)

theorem order_num (s t : Bool) (m n : Nat) (i j B : Int) (hi : B ≤ i) (hj : B ≤ j) :
    compare (signed s m (i - min i j).toNat) (signed t n (j - min i j).toNat) = compare (signed s m (i - B).toNat) (signed t n (j - B).toNat) := by
  obtain ⟨d, hd⟩ : ∃ d : Nat, (d : Int) = min i j - B := ⟨(min i j - B).toNat, by omega⟩
  have h1 : (i - B).toNat = (i - min i j).toNat + d := by omega
  have h2 : (j - B).toNat = (j - min i j).toNat + d := by omega
  rw [h1, h2, signed_shift, signed_shift, compare_scale]

theorem keys_exist (ds : List Datum) : ∃ K : Datum → Option Int, ∀ a ∈ ds, ∀ b ∈ ds, a.order b = cmpK (K a) (K b) := by
  obtain ⟨B, hB⟩ : ∃ B : Int, ∀ s m i, Datum.number s m i ∈ ds → B ≤ i := by
    induction ds with
    | nil => exact ⟨0, fun _ _ _ h => by cases h⟩
    | cons d ds ih =>
      obtain ⟨B, hB⟩ := ih
      cases d with
      | number s m i =>
        refine ⟨min B i, fun s' m' i' h => ?_⟩
        rcases List.mem_cons.1 h with h | h
        · injection h with _ _ h; omega
        · have := hB _ _ _ h; omega
      | infinity s => exact ⟨B, fun s' m' i' h => by rcases List.mem_cons.1 h with h | h; cases h; exact hB _ _ _ h⟩
      | nan s f => exact ⟨B, fun s' m' i' h => by rcases List.mem_cons.1 h with h | h; cases h; exact hB _ _ _ h⟩
  obtain ⟨M, hM0, hM⟩ : ∃ M : Int, 0 ≤ M ∧ ∀ s m i, Datum.number s m i ∈ ds → -M ≤ signed s m (i - B).toNat ∧ signed s m (i - B).toNat ≤ M := by
    clear hB
    induction ds with
    | nil => exact ⟨0, by omega, fun _ _ _ h => by cases h⟩
    | cons d ds ih =>
      obtain ⟨M, hM0, hM⟩ := ih
      cases d with
      | number s m i =>
        refine ⟨M + (signed s m (i - B).toNat).natAbs, by omega, fun s' m' i' h => ?_⟩
        rcases List.mem_cons.1 h with h | h
        · injection h with h1 h2 h3; subst h1 h2 h3; omega
        · have := hM _ _ _ h; omega
      | infinity s => exact ⟨M, hM0, fun s' m' i' h => by rcases List.mem_cons.1 h with h | h; cases h; exact hM _ _ _ h⟩
      | nan s f => exact ⟨M, hM0, fun s' m' i' h => by rcases List.mem_cons.1 h with h | h; cases h; exact hM _ _ _ h⟩
  refine ⟨keyD B M, fun a ha b hb => ?_⟩
  cases a with
  | nan s f => cases b <;> rfl
  | infinity s =>
    cases b with
    | nan t f => rfl
    | infinity t =>
      show some (compare t.toNat s.toNat) = some (compare (if s then -(M + 1) else M + 1) (if t then -(M + 1) else M + 1))
      cases s <;> cases t
      · simp
      · have h : -(M + 1) < M + 1 := by omega
        simp only [if_true, if_false, Bool.false_eq_true]
        rw [Int.compare_eq_gt.2 h]; rfl
      · have h : -(M + 1) < M + 1 := by omega
        simp only [if_true, if_false, Bool.false_eq_true]
        rw [Int.compare_eq_lt.2 h]; rfl
      · simp
    | number t n j =>
      obtain ⟨h1, h2⟩ := hM _ _ _ hb
      show some (if s then Ordering.lt else Ordering.gt) = some (compare (if s then -(M + 1) else M + 1) (signed t n (j - B).toNat))
      cases s
      · simp only [if_false, Bool.false_eq_true]
        rw [Int.compare_eq_gt.2 (show M + 1 > _ by omega)]
      · simp only [if_true]
        rw [Int.compare_eq_lt.2 (show -(M + 1) < _ by omega)]
  | number s m i =>
    obtain ⟨h1, h2⟩ := hM _ _ _ ha
    cases b with
    | nan t f => rfl
    | infinity t =>
      show some (if t then Ordering.gt else Ordering.lt) = some (compare (signed s m (i - B).toNat) (if t then -(M + 1) else M + 1))
      cases t
      · simp only [if_false, Bool.false_eq_true]
        rw [Int.compare_eq_lt.2 (show _ < M + 1 by omega)]
      · simp only [if_true]
        rw [Int.compare_eq_gt.2 (show _ > -(M + 1) by omega)]
    | number t n j =>
      show some (compare (signed s m (i - min i j).toNat) (signed t n (j - min i j).toNat)) = some _
      rw [order_num s t m n i j B (hB _ _ _ ha) (hB _ _ _ hb)]

/-- The comparison of topk (top) and bottomk: a number ahead of every NaN. -/
def lessF (top : Bool) (x y : Nat) : Bool :=
  if (FloatKind.f64.format.order x x != some .eq) = true then false
  else if (FloatKind.f64.format.order y y != some .eq) = true then true
  else if top then FloatKind.f64.format.order x y == some .gt else FloatKind.f64.format.order x y == some .lt

def lessK (top : Bool) (x y : Option Int) : Bool :=
  if (cmpK x x != some .eq) = true then false
  else if (cmpK y y != some .eq) = true then true
  else if top then cmpK x y == some .gt else cmpK x y == some .lt

theorem lessK_eq (top : Bool) (x y : Option Int) : lessK top x y = match x, y with
    | none, _ => false
    | some _, none => true
    | some a, some b => if top then decide (b < a) else decide (a < b) := by
  cases x with
  | none => rfl
  | some a =>
    cases y with
    | none => simp [lessK, cmpK]
    | some b =>
      have h1 : (cmpK (some a) (some a) != some Ordering.eq) = false := by simp [cmpK]
      have h2 : (cmpK (some b) (some b) != some Ordering.eq) = false := by simp [cmpK]
      unfold lessK
      rw [h1, h2]
      simp only [Bool.false_eq_true, if_false]
      rcases Int.lt_trichotomy a b with h | h | h
      · have e : compare a b = .lt := Int.compare_eq_lt.2 h
        have hn : ¬ b < a := by omega
        cases top <;> simp [cmpK, e, h, hn]
      · subst h; cases top <;> simp [cmpK]
      · have e : compare a b = .gt := Int.compare_eq_gt.2 h
        have hn : ¬ a < b := by omega
        cases top <;> simp [cmpK, e, h, hn]

theorem lessK_swo (top : Bool) : SWO (lessK top) := by
  refine ⟨fun x => ?_, fun x y z => ?_, fun x y z => ?_⟩
  · rw [lessK_eq]; cases x <;> cases top <;> simp
  · rw [lessK_eq, lessK_eq, lessK_eq]; cases x <;> cases y <;> cases z <;> cases top <;> simp <;> omega
  · rw [lessK_eq, lessK_eq, lessK_eq]; cases x <;> cases y <;> cases z <;> cases top <;> simp <;> omega

theorem lessF_swo (top : Bool) : SWO (lessF top) := by
  have key : ∀ ds : List Nat, ∃ K : Nat → Option Int, ∀ a ∈ ds, ∀ b ∈ ds, lessF top a b = lessK top (K a) (K b) := by
    intro ds
    obtain ⟨K, hK⟩ := keys_exist (ds.map FloatKind.f64.format.read)
    refine ⟨fun n => K (FloatKind.f64.format.read n), fun a ha b hb => ?_⟩
    have e : ∀ x ∈ ds, ∀ y ∈ ds, FloatKind.f64.format.order x y = cmpK (K (FloatKind.f64.format.read x)) (K (FloatKind.f64.format.read y)) := fun x hx y hy => hK _ (List.mem_map_of_mem hx) _ (List.mem_map_of_mem hy)
    unfold lessF lessK
    rw [e a ha a ha, e b hb b hb, e a ha b hb]
  refine ⟨fun x => ?_, fun x y z h1 h2 => ?_, fun x y z h1 h2 => ?_⟩
  · obtain ⟨K, hK⟩ := key [x]
    rw [hK x (by simp) x (by simp)]
    exact (lessK_swo top).irrefl _
  · obtain ⟨K, hK⟩ := key [x, y, z]
    rw [hK x (by simp) y (by simp)] at h1
    rw [hK y (by simp) z (by simp)] at h2
    rw [hK x (by simp) z (by simp)]
    exact (lessK_swo top).trans _ _ _ h1 h2
  · obtain ⟨K, hK⟩ := key [x, y, z]
    rw [hK x (by simp) y (by simp)] at h1
    rw [hK y (by simp) z (by simp)] at h2
    rw [hK x (by simp) z (by simp)]
    exact (lessK_swo top).ntrans _ _ _ h1 h2
end Go.Proofs.YtefdoineacfbhaaGreatDoor
