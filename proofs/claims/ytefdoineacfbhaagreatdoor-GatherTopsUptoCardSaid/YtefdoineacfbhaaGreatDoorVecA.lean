/- Vectors in memory, and the comparison of two elements. -/
import Derived.Test.YtefdoineacfbhaaGreatDoorClone
import Derived.Test.YtefdoineacfbhaaGreatDoorOrder
import Derived.Test.YtefdoineacfbhaaGreatDoorStableEC
import Derived.Deep.RegionHeld3
namespace Go.Proofs.YtefdoineacfbhaaGreatDoor
open Go.RowKit Go.Sort Go.Lib

/-- An element: its labels, its value's bits. -/
abbrev El := List Lb × Nat
/-- The cells of elements, each with the slice value of its labels. -/
def cellsE (vs : List (Value × El)) : List Value := vs.flatMap fun x => [x.1, .float .f64 x.2.2]
theorem cellsE_append (a b : List (Value × El)) : cellsE (a ++ b) = cellsE a ++ cellsE b := by simp [cellsE]
theorem cellsE_length (vs : List (Value × El)) : (cellsE vs).length = vs.length * 2 := by
  induction vs with
  | nil => rfl
  | cons l ls ih => simp only [cellsE, List.flatMap_cons, List.length_append, List.length_cons, List.length_nil] at *; omega
theorem cellsE_get (vs : List (Value × El)) (k : Nat) (h : k < vs.length) : (cellsE vs)[k * 2]? = some vs[k].1 ∧ (cellsE vs)[k * 2 + 1]? = some (.float .f64 vs[k].2.2) := by
  induction vs generalizing k with
  | nil => simp at h
  | cons l ls ih =>
    cases k with
    | zero => simp [cellsE]
    | succ k =>
      have := ih k (by simpa using h)
      simp only [cellsE, List.flatMap_cons, List.getElem_cons_succ] at *
      rw [show (k + 1) * 2 = k * 2 + 2 from by omega, show k * 2 + 2 + 1 = (k * 2 + 1) + 2 from by omega]
      exact this

/-- A slice value that reads as a vector. -/
def VecV (w : World) (B : Nat) (v : Value) (es : List El) : Prop :=
  ∃ A n c vs, v = .slice A n c ∧ Reads w B 2 A n (cellsE vs) ∧ vs.map (·.2) = es ∧ (∀ x ∈ vs, LabsV w B x.1 x.2.1) ∧ n ≤ c ∧ (A = none → c = 0)
theorem VecV.below {w w' : World} {B : Nat} {v : Value} {es : List El} (h : VecV w B v es) (hb : Below B w w') : VecV w' B v es := by
  obtain ⟨A, n, c, vs, e, hr, hm, hl, h1, h2⟩ := h
  exact ⟨A, n, c, vs, e, hr.below hb, hm, fun x hx => (hl x hx).below hb, h1, h2⟩
theorem VecV.more {w : World} {B B' : Nat} {v : Value} {es : List El} (h : VecV w B v es) (hB : B ≤ B') : VecV w B' v es := by
  obtain ⟨A, n, c, vs, e, hr, hm, hl, h1, h2⟩ := h
  exact ⟨A, n, c, vs, e, hr.more hB, hm, fun x hx => (hl x hx).more hB, h1, h2⟩

/-- Sizes that the bound of the statement gives. -/
def FineL (ls : List Lb) : Prop := ls.length ≤ 1048576 ∧ ∀ l ∈ ls, l.1.size ≤ 1048576 ∧ l.2.size ≤ 1048576
def FineE (es : List El) : Prop := es.length ≤ 1048576 ∧ ∀ x ∈ es, FineL x.1

def cmpE (x y : Value × El) : Int := cmpLs x.2.1 y.2.1
def ltE (x y : El) : Bool := decide (cmpLs x.1 y.1 < 0)
theorem ltE_swo : SWO ltE := cmpLs_tot.comap (fun x : El => x.1)

set_option maxHeartbeats 400000 in
/-- labels.Vector's own function: of two elements. -/
theorem vecCmp_any (x y : Value) (bx bY : Nat) (lx ly : List Lb) (w : World) (hx : LabsV w w.heap.size x lx) (hy : LabsV w w.heap.size y ly) (hn : lx.length ≤ 1048576) (hm : ly.length ≤ 1048576) :
    Calls Tryz.prog 39 #[.agg #[x, .float .f64 bx], .agg #[y, .float .f64 bY]] w fun e w' => e = .returned (.int .i64 (cmpLs lx ly)) ∧ Grows w w' := by
  obtain ⟨A, n, c, rfl, hr, _, _⟩ := hx
  obtain ⟨A', m, c', rfl, hr', _, _⟩ := hy
  have hl : lx.length = n := by have := hr.1; rw [cellsL_length] at this; omega
  have hl' : ly.length = m := by have := hr'.1; rw [cellsL_length] at this; omega
  have HC : Hid (∀ W, Below w.heap.size w W → Calls Tryz.prog 40 #[.slice A n c, .slice A' m c'] W fun e w' => e = .returned (.int .i64 (cmpLs lx ly)) ∧ Grows W w') := fun W hb =>
    compare_any A A' n m c c' lx ly W ((hr.below hb).more hb.size) ((hr'.below hb).more hb.size) (by omega) (by omega)
  clear hr hr' hl hl' hn hm
  go_enter Tryz.func39, Tryz.ntmps39
  go_wp2_with (go_at_call 40; refine (HC.out _ (((Below.refl _ _).alloc (Nat.le_refl _) _).alloc (by simp) _)).mono ?_; rintro e w' ⟨rfl, hg⟩)
  go_ret
  exact ⟨rfl, (((Grows.refl w).alloc _).alloc _).trans hg⟩
end Go.Proofs.YtefdoineacfbhaaGreatDoor
