/- How many topk and bottomk keep, where the parameter is one of the numbers 0 to 5; a group's best. -/
import Derived.Test.YtefdoineacfbhaaGreatDoorBest
namespace Go.Proofs.YtefdoineacfbhaaGreatDoor
open Go Go.Proofs Go.Shelf Go.RowKit Go.Lib Go.Sort

/-- The parameter is a whole number. -/
structure Whole (p : Nat) (k : Int) : Prop where
  ge : (FloatKind.f64.format.order p 14114281232179134464 == some .gt || FloatKind.f64.format.order p 14114281232179134464 == some .eq) = true
  lt : (FloatKind.f64.format.order p 4890909195324358656 == some .lt) = true
  int : (FloatKind.f64.decode p).toInt .zero = some k
  lo : -9223372036854775808 ≤ k
  hi : k ≤ 9223372036854775807

theorem run_toInt {P : Program} {p : Nat} {k : Int} (h : Whole p k) (W : World) (hs : P.underlying 25 = some (.float .f64)) (hd : P.underlying 2 = some (.int .i64)) : (convert 25 2 (.float .f64 p)).run P W = .ok (.int .i64 k) W := by
  have h1 := h.int
  have h2 : IntKind.i64.min ≤ k ∧ k ≤ IntKind.i64.max := ⟨h.lo, h.hi⟩
  simp only [convert, Sem.run_bind, run_underlying hs, run_underlying hd, Result.andThen_ok, Conv.floatToInt, h1, if_pos h2, Sem.run_pure]

theorem toInt_whole (p : Nat) (k : Int) (h : Whole p k) (w : World) : Calls Tryz.prog 108 #[.float .f64 p] w fun e w' => e = .returned (.tuple #[.int .i64 k, .bool true]) ∧ w = w' := by
  have hc := fun W => run_toInt (P := Tryz.prog) h W Tryz.underlying25 Tryz.underlying2
  have h1 := h.ge
  have h2 := h.lt
  clear h
  go_enter Tryz.func108, Tryz.ntmps108
  go_wp2_with fail
  go_ret2
  exact ⟨rfl, rfl⟩

theorem howMany_whole (p k n : Nat) (h : Whole p k) (hn : n ≤ 1048576) (w : World) : Calls Tryz.prog 70 #[.float .f64 p, .int .i64 n] w fun e w' => e = .returned (.int .i64 (min k n : Nat)) ∧ w = w' := by
  have HT := Lib.hid (toInt_whole p k h)
  have hk := h.hi
  clear h
  go_enter Tryz.func70, Tryz.ntmps70
  go_wp2_with (go_at_call 108; refine (HT.out _).mono ?_; rintro e w' ⟨rfl, rfl⟩)
  go_ret
  refine ⟨?_, rfl⟩
  show Ending.returned (Value.int .i64 (min (k : Int) (n : Int))) = _
  rw [show (min (k : Int) (n : Int)) = ((min k n : Nat) : Int) from by omega]

theorem bestL_min (top : Bool) (k : Nat) (vs : List (Value × El)) : bestL top (min k vs.length) vs = bestL top k vs := by
  unfold bestL
  congr 1
  rcases Nat.le_total k vs.length with h | h
  · rw [Nat.min_eq_left h]
  · rw [Nat.min_eq_right h, List.take_of_length_le (by rw [isort_length, entsFrom_length]; omega), List.take_of_length_le (by rw [isort_length, entsFrom_length]; omega)]

def RowRes (T : TypeId) (size : Nat) (n : Nat) (xs : List Value) (w : World) (e : Ending) (w' : World) : Prop := ∃ v, e = .returned v ∧ w'.ownsRow w.heap.size T size v n xs ∧ RowKit.Below w.heap.size w w'

set_option maxHeartbeats 2000000 in
theorem chosen_any (op : Agg) (wo : Bool) (labs : Value) (param k : Nat) (hw : Whole param k) (text : ByteArray) (A : Option Addr) (n c : Nat) (vs : List (Value × El)) (w : World)
    (hlabs : ∃ a b c, labs = .slice a b c) (hr : Reads w w.heap.size 2 A n (cellsE vs)) (hs : ∀ x ∈ vs, IsSl x.1) (hn : n ≤ 1048576) :
    Calls Tryz.prog 34 #[.agg (gathV op wo labs param text), .slice A n c] w (RowRes 43 2 (bestL (isTop op) k vs).length (cellsE (bestL (isTop op) k vs)) w) := by
  have hl0 : vs.length = n := by have := hr.1; rw [cellsE_length] at this; omega
  obtain ⟨la, lb, lc, rfl⟩ := hlabs
  have HH := Lib.hid (howMany_whole param k n hw hn)
  have HBL : Hid (bestL (isTop op) (min k n) vs = bestL (isTop op) k vs) := by
    show _ = _
    rw [← hl0]; exact bestL_min _ _ _
  have hg := Blk.new w 27 (gathV op wo (.slice la lb lc) param text)
  have HB := Lib.hid (best_any op wo (.slice la lb lc) param text w.heap.size A n c vs ((min k n : Nat) : Int) (w.alloc (.cells (gathV op wo (.slice la lb lc) param text) 27)) hg ((hr.alloc (Nat.le_refl _) _).more (by simp)) hs hn)
  rw [Int.toNat_natCast, HBL.out] at HB
  unfold gathV at HB hg ⊢
  have c3 : (w.alloc (.cells #[.string (opB op), .bool wo, .slice la lb lc, .float .f64 param, .string text] 27)).cell? ⟨w.heap.size, 3, none⟩ = some (.float .f64 param) := hg.cell 3
  generalize opB op = ob at *
  clear hr hs hl0 hg hw
  go_enter Tryz.func34, Tryz.ntmps34
  go_wp2_with (first
    | (go_at_call 70; refine (HH.out _).mono ?_; rintro e w' ⟨rfl, rfl⟩)
    | (go_at_call 71; refine (Hid.out HB).mono ?_; rintro e w2 ⟨v, rfl, hown, hb2⟩))
  go_ret
  exact ⟨_, rfl, own_mono hown (by simp), ((Below.refl _ _).alloc (Nat.le_refl _) _).trans (hb2.mono (by simp))⟩
end Go.Proofs.YtefdoineacfbhaaGreatDoor
