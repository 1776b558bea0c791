/- A heap in a row: plain. -/
import Derived.Test.YtefdoineacfbhaaGreatDoorSortPlain
namespace Go.Proofs.YtefdoineacfbhaaGreatDoor
open Go.Sort

section
variable {α : Type} {lt : α → α → Bool}

def HeapF (lt : α → α → Bool) (n : Nat) (f : Nat → α) : Prop := ∀ j, 0 < j → j < n → lt (f j) (f ((j - 1) / 2)) = false
def UpF (lt : α → α → Bool) (n : Nat) (f : Nat → α) (i : Nat) : Prop :=
  (∀ j, 0 < j → j < n → j ≠ i → lt (f j) (f ((j - 1) / 2)) = false) ∧ (0 < i → ∀ j, 0 < j → j < n → (j - 1) / 2 = i → lt (f j) (f ((i - 1) / 2)) = false)
def DownF (lt : α → α → Bool) (n : Nat) (f : Nat → α) (i : Nat) : Prop :=
  (∀ j, 0 < j → j < n → (j - 1) / 2 ≠ i → lt (f j) (f ((j - 1) / 2)) = false) ∧ (0 < i → ∀ j, 0 < j → j < n → (j - 1) / 2 = i → lt (f j) (f ((i - 1) / 2)) = false)
def sw (f : Nat → α) (i j : Nat) : Nat → α := fun k => if k = j then f i else if k = i then f j else f k

theorem sw_r (f : Nat → α) (i j : Nat) : sw f i j j = f i := by simp [sw]
theorem sw_l (f : Nat → α) (i j : Nat) : sw f i j i = f j := by unfold sw; split <;> simp_all
theorem sw_o (f : Nat → α) (i j k : Nat) (h1 : k ≠ i) (h2 : k ≠ j) : sw f i j k = f k := by simp [sw, h1, h2]

theorem up_step (hO : SWO lt) {n i : Nat} {f : Nat → α} (h : UpF lt n f i) (h0 : 0 < i) (hn : i < n) (hl : lt (f i) (f ((i - 1) / 2)) = true) : UpF lt n (sw f i ((i - 1) / 2)) ((i - 1) / 2) := by
  obtain ⟨p, hp⟩ : ∃ p, (i - 1) / 2 = p := ⟨_, rfl⟩
  rw [hp] at hl ⊢
  have hpi : p < i := by omega
  refine ⟨fun j hj hjn hjp => ?_, fun hp0 j hj hjn hjp => ?_⟩
  · by_cases e : j = i
    · subst e
      rw [sw_l, hp, sw_r]
      exact swo_asymm hO hl
    · rw [sw_o f i p j e hjp]
      by_cases e2 : (j - 1) / 2 = i
      · rw [e2, sw_l]
        have := h.2 h0 j hj hjn e2
        rw [hp] at this
        exact this
      · by_cases e3 : (j - 1) / 2 = p
        · rw [e3, sw_r]
          have h1 := h.1 j hj hjn e
          rw [e3] at h1
          cases hq : lt (f j) (f i) with
          | false => rfl
          | true => rw [hO.trans _ _ _ hq hl] at h1; cases h1
        · rw [sw_o f i p _ e2 e3]
          exact h.1 j hj hjn e
  · have hpp : (p - 1) / 2 ≠ i := by omega
    have hpp2 : (p - 1) / 2 ≠ p := by omega
    rw [sw_o f i p _ hpp hpp2]
    have hup := h.1 p hp0 (by omega) (by omega)
    by_cases e : j = i
    · subst e
      rw [sw_l]
      exact hup
    · rw [sw_o f i p j e (by omega)]
      have h1 := h.1 j hj hjn e
      rw [hjp] at h1
      exact hO.ntrans _ _ _ h1 hup

theorem up_done {n i : Nat} {f : Nat → α} (h : UpF lt n f i) (hd : i = 0 ∨ lt (f i) (f ((i - 1) / 2)) = false) : HeapF lt n f := by
  intro j hj hjn
  by_cases e : j = i
  · subst e
    rcases hd with hd | hd
    · omega
    · exact hd
  · exact h.1 j hj hjn e

theorem up_start {n : Nat} {f g : Nat → α} (h : HeapF lt n f) (he : ∀ j, j < n → g j = f j) : UpF lt (n + 1) g n := by
  refine ⟨fun j hj hjn hne => ?_, fun h0 j hj hjn hp => by omega⟩
  rw [he j (by omega), he _ (by omega)]
  exact h j hj (by omega)

theorem down_step (hO : SWO lt) {n i c : Nat} {f : Nat → α} (h : DownF lt n f i) (hc : (c - 1) / 2 = i) (hc0 : 0 < c) (hcn : c < n) (hl : lt (f c) (f i) = true)
    (hk : ∀ k, 0 < k → k < n → (k - 1) / 2 = i → lt (f k) (f c) = false) : DownF lt n (sw f i c) c := by
  have hic : i < c := by omega
  refine ⟨fun j hj hjn hjp => ?_, fun _ j hj hjn hjp => ?_⟩
  · by_cases e : j = c
    · subst e
      rw [sw_r, hc, sw_l]
      exact swo_asymm hO hl
    · by_cases e1 : (j - 1) / 2 = i
      · rw [sw_o f i c j (by omega) e, e1, sw_l]
        exact hk j hj hjn e1
      · by_cases e2 : j = i
        · subst e2
          rw [sw_l, sw_o f j c _ (by omega) hjp]
          exact h.2 hj c hc0 hcn hc
        · rw [sw_o f i c j e2 e, sw_o f i c _ e1 hjp]
          exact h.1 j hj hjn e1
  · rw [hc, sw_l, sw_o f i c j (by omega) (by omega)]
    have := h.1 j hj hjn (by omega)
    rw [hjp] at this
    exact this

theorem down_done {n i : Nat} {f : Nat → α} (h : DownF lt n f i) (hk : ∀ k, 0 < k → k < n → (k - 1) / 2 = i → lt (f k) (f i) = false) : HeapF lt n f := by
  intro j hj hjn
  by_cases e : (j - 1) / 2 = i
  · rw [e]; exact hk j hj hjn e
  · exact h.1 j hj hjn e

theorem down_start {n : Nat} {f g : Nat → α} (h : HeapF lt (n + 1) f) (he : ∀ j, 0 < j → j < n → g j = f j) : DownF lt n g 0 := by
  refine ⟨fun j hj hjn hne => ?_, fun h0 => by omega⟩
  rw [he j hj hjn, he _ (by omega) (by omega)]
  exact h j hj (by omega)

theorem heap_root (hO : SWO lt) {n : Nat} {f : Nat → α} (h : HeapF lt n f) : ∀ j, j < n → lt (f j) (f 0) = false := by
  intro j
  induction j using Nat.strongRecOn with
  | _ j ih =>
    intro hj
    rcases Nat.eq_zero_or_pos j with e | e
    · subst e; exact hO.irrefl _
    · exact hO.ntrans _ _ _ (h j e hj) (ih ((j - 1) / 2) (by omega) (by omega))

/-- One order behind another. -/
def lexLt (l1 l2 : α → α → Bool) (a b : α) : Bool := l1 a b || (!l1 b a && l2 a b)
theorem lexLt_swo {l1 l2 : α → α → Bool} (h1 : SWO l1) (h2 : SWO l2) : SWO (lexLt l1 l2) := by
  unfold lexLt
  refine ⟨fun x => by rw [h1.irrefl, h2.irrefl]; rfl, fun x y z hxy hyz => ?_, fun x y z hxy hyz => ?_⟩
  · have t1 := h1.trans x y z
    have t2 := h2.trans x y z
    have n1 := h1.ntrans z y x
    have n2 := h1.ntrans y x z
    have n3 := h1.ntrans x z y
    have a1 := h1.trans z x y
    have a2 := h1.trans y z x
    revert hxy hyz t1 t2 n1 n2 n3 a1 a2
    cases l1 x y <;> cases l1 y x <;> cases l1 y z <;> cases l1 z y <;> cases l1 x z <;> cases l1 z x <;> cases l2 x y <;> cases l2 y z <;> cases l2 x z <;> simp
  · have t1 := h1.trans z y x
    have n0 := h1.ntrans x y z
    have n1 := h1.ntrans z y x
    have m2 := h2.ntrans x y z
    have s1 : l1 x z = true → l1 z x = false := swo_asymm h1
    have a5 := h1.ntrans x z y
    have a6 := h1.ntrans y x z
    have a7 := h1.ntrans z x y
    have a8 := h1.ntrans y z x
    have a1 := h1.trans y x z
    have a2 := h1.trans x z y
    have a3 := h1.trans y z x
    have a4 := h1.trans z x y
    revert hxy hyz t1 n0 n1 m2 s1 a5 a6 a7 a8 a1 a2 a3 a4
    cases l1 x y <;> cases l1 y x <;> cases l1 y z <;> cases l1 z y <;> cases l1 x z <;> cases l1 z x <;> cases l2 x y <;> cases l2 y z <;> cases l2 x z <;> simp
theorem flip_swo {l : α → α → Bool} (h : SWO l) : SWO fun a b => l b a :=
  ⟨h.irrefl, fun x y z a b => h.trans z y x b a, fun x y z a b => h.ntrans z y x b a⟩
end
end Go.Proofs.YtefdoineacfbhaaGreatDoor
