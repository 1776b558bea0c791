/- The plain words: label lists, what is kept of them. No program in sight. -/
import Derived.Lib.Strings
import Derived.Laws.Strings
import GoSem.Core.Value
namespace Go.Proofs.YtefdoineacfbhaaGreatDoor
open Go

theorem ba_eq_of_data {a b : ByteArray} (h : a.data = b.data) : a = b := by cases a; cases b; simp_all

instance : LawfulBEq ByteArray where
  eq_of_beq {a b} h := ba_eq_of_data (eq_of_beq (show (a.data == b.data) = true from h))
  rfl {a} := show (a.data == a.data) = true from beq_self_eq_true _

theorem toList_inj {a b : ByteArray} : a.toList = b.toList ↔ a = b := by
  rw [ByteArray.toList_eq, ByteArray.toList_eq]
  exact ⟨fun h => ba_eq_of_data (Array.toList_inj.1 h), fun h => by rw [h]⟩
theorem toList_beq (a b : ByteArray) : (a.toList == b.toList) = decide (a = b) := by
  by_cases h : a = b
  · subst h; simp
  · rw [decide_eq_false h]; simp [toList_inj, h]

/-- A label: its name, its value. -/
abbrev Lb := ByteArray × ByteArray
def metricName : ByteArray := ⟨#[95, 95, 110, 97, 109, 101, 95, 95]⟩

theorem metric_toList : metricName.toList = [95, 95, 110, 97, 109, 101, 95, 95] := by rw [ByteArray.toList_eq]; rfl

def staysP (names : List ByteArray) (wo : Bool) (nm : ByteArray) : Bool := if wo then decide (nm ≠ metricName) && decide (nm ∉ names) else decide (nm ∈ names)
def keepP (ls : List Lb) (names : List ByteArray) (wo : Bool) : List Lb := ls.filter fun l => staysP names wo l.1

/-- The cells of a label list. -/
def cellsL (ls : List Lb) : List Value := ls.flatMap fun l => [.string l.1, .string l.2]
theorem cellsL_nil : cellsL [] = [] := rfl
theorem cellsL_append (a b : List Lb) : cellsL (a ++ b) = cellsL a ++ cellsL b := by simp [cellsL]
theorem cellsL_length (ls : List Lb) : (cellsL ls).length = ls.length * 2 := by
  induction ls with
  | nil => rfl
  | cons l ls ih => simp only [cellsL, List.flatMap_cons, List.length_append, List.length_cons, List.length_nil] at *; omega
theorem cellsL_get (ls : List Lb) (k : Nat) (h : k < ls.length) : (cellsL ls)[k * 2]? = some (.string ls[k].1) ∧ (cellsL ls)[k * 2 + 1]? = some (.string ls[k].2) := by
  induction ls generalizing k with
  | nil => simp at h
  | cons l ls ih =>
    cases k with
    | zero => simp [cellsL]
    | succ k =>
      have := ih k (by simpa using h)
      simp only [cellsL, List.flatMap_cons, List.getElem_cons_succ] at *
      rw [show (k + 1) * 2 = k * 2 + 2 from by omega, show k * 2 + 2 + 1 = (k * 2 + 1) + 2 from by omega]
      exact this
theorem cellsL_one {ls : List Lb} {v : Value} (h : v ∈ cellsL ls) : ∃ s, v = .string s := by
  simp only [cellsL, List.mem_flatMap, List.mem_cons, List.not_mem_nil, or_false] at h
  obtain ⟨l, _, rfl | rfl⟩ := h <;> exact ⟨_, rfl⟩

theorem keepP_snoc (ls : List Lb) (names : List ByteArray) (wo : Bool) (k : Nat) (h : k < ls.length) :
    keepP (ls.take (k + 1)) names wo = keepP (ls.take k) names wo ++ (if staysP names wo ls[k].1 then [ls[k]] else []) := by
  rw [List.take_succ_eq_append_getElem h]
  unfold keepP
  rw [List.filter_append]
  simp [List.filter_cons]
end Go.Proofs.YtefdoineacfbhaaGreatDoor
