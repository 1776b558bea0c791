/- The law's own helpers: sameLabels, place, num.Same. -/
import Derived.Test.YtefdoineacfbhaaGreatDoorGatherT
import Derived.BigQuiet
import Derived.Laws.StructEq
namespace Go.Proofs.YtefdoineacfbhaaGreatDoor
open Go Go.Proofs Go.Shelf Go.RowKit Go.Lib Go.Sort

attribute [local go_sem] run_store_float

theorem run_neq_lb (a b c d : ByteArray) (W : World) : (binOp .neq 46 (.agg #[.string a, .string b]) (.agg #[.string c, .string d])).run Tryz.prog W = .ok (.bool (!(decide ((a, b) = (c, d))))) W := by
  have u3 := Tryz.underlying9
  have a3 := Tryz.isAgg9
  have z3 := Tryz.sizeOf9
  have hS : Tryz.prog.underlying 46 = some (.struct (Tryz.prog.fieldsOf 46)) := by kernel_rfl
  have hp : Tryz.prog.stoodInHeld 46 = false := by kernel_rfl
  rw [run_neq_struct, show (10000 : Nat) = 9999 + 1 from rfl, run_equalIn_agg W 9999 46 _ _ hS hp]
  simp only [Program.fieldsOf, Tryz.underlying46]
  go_simp
  simp only [toList_inj]
  by_cases h1 : a = c <;> by_cases h2 : b = d <;> simp [h1, h2]

theorem same_step {la lb : List Lb} (hl : la.length = lb.length) {k : Nat} (hk : la.take k = lb.take k) (h : k < la.length) (e : la[k] = lb[k]'(by omega)) : la.take (k + 1) = lb.take (k + 1) := by
  rw [List.take_succ_eq_append_getElem h, List.take_succ_eq_append_getElem (by omega), hk, e]

set_option maxHeartbeats 2000000 in
theorem sameLabels_any (A : Option Addr) (n c : Nat) (la : List Lb) (A' : Option Addr) (m c' : Nat) (lb : List Lb) (w : World) (h : Reads w w.heap.size 2 A n (cellsL la)) (h' : Reads w w.heap.size 2 A' m (cellsL lb)) (hn : n ≤ 1048576) :
    Calls Tryz.prog 16 #[.slice A n c, .slice A' m c'] w fun e w' => e = .returned (.bool (decide (la = lb))) ∧ RowKit.Below w.heap.size w w' := by
  have hl : la.length = n := by have := h.1; rw [cellsL_length] at this; omega
  have hl' : lb.length = m := by have := h'.1; rw [cellsL_length] at this; omega
  by_cases hnm : n = m
  · subst hnm
    have HR := Lib.hid h
    have HR' := Lib.hid h'
    have HL := Lib.hid hl
    have HL' := Lib.hid hl'
    clear h h' hl hl'
    go_enter Tryz.func16, Tryz.ntmps16
    go_wp2_with fail
    go_loopw [13] (fun iv wr => ∃ k : Nat, k ≤ n ∧ iv = .int .i64 k ∧ Hid (la.take k = lb.take k) ∧ Hid (∃ q, wr = w.drewN q)) (fun iv _ => n - (intOf iv).toNat)
    case atStart => exact ⟨0, by omega, by go_num, rfl, 0, rfl⟩
    case round =>
      obtain ⟨k, hk, rfl, HT, HW⟩ := hrel
      obtain ⟨q, rfl⟩ := HW.out
      by_cases hlt : k < n
      · obtain ⟨b, off, rfl, hbl, hc⟩ := HR.out.at_ hlt
        obtain ⟨b', off', rfl, hbl', hc'⟩ := HR'.out.at_ hlt
        have hka : k < la.length := by have := HL.out; omega
        have hkb : k < lb.length := by have := HL'.out; omega
        have hx := cellsL_get la k hka
        have hx' := cellsL_get lb k hkb
        have c0 : w.cell? ⟨b, off + k * 2, none⟩ = some (.string la[k].1) := hc _ _ hx.1
        have c1 : w.cell? ⟨b, off + k * 2 + 1, none⟩ = some (.string la[k].2) := hc _ _ hx.2
        have e0 : w.cell? ⟨b', off' + k * 2, none⟩ = some (.string lb[k].1) := hc' _ _ hx'.1
        have e1 : w.cell? ⟨b', off' + k * 2 + 1, none⟩ = some (.string lb[k].2) := hc' _ _ hx'.2
        obtain ⟨x, hxx⟩ : ∃ x, la[k] = x := ⟨_, rfl⟩
        obtain ⟨y, hyy⟩ : ∃ x, lb[k] = x := ⟨_, rfl⟩
        rw [hxx] at c0 c1
        rw [hyy] at e0 e1
        have HX := Lib.hid hxx
        have HY := Lib.hid hyy
        obtain ⟨x1, x2⟩ := x
        obtain ⟨y1, y2⟩ := y
        dsimp only at c0 c1 e0 e1
        clear hx hx' hc hc' hxx hyy
        have hq0 : (0 : Int) ≤ (k : Int) := by omega
        have hq1 : (k : Int) < (n : Int) := by omega
        have hq2 : ((k : Int)).toNat = k := by omega
        have hne := run_neq_lb x1 x2 y1 y2
        by_cases he : (x1, x2) = (y1, y2)
        · have HE := Lib.hid he
          rw [decide_eq_true he] at hne
          clear he
          go_wp2_with fail
          go_quiet (fail)
          go_wp2_with fail
          go_roundw
          case rel => exact ⟨k + 1, by omega, by go_num, same_step (by have := HL.out; have := HL'.out; omega) HT.out hka (by rw [HX.out, HY.out, HE.out]), _, rfl⟩
          case measure => simp [intOf]; omega
        · have HE := Lib.hid he
          rw [decide_eq_false he] at hne
          clear he
          go_wp2_with fail
          go_quiet (fail)
          go_wp2_with fail
          go_ret
          refine ⟨ret_bool ?_, ⟨rfl, rfl, rfl, Nat.le_refl _, fun _ _ => rfl⟩⟩
          refine (decide_eq_false fun e => ?_).symm
          subst e
          exact HE.out (HX.out.symm.trans HY.out)
      · have hkn : k = n := by omega
        subst hkn
        have HE : Hid (la = lb) := by
          have := HT.out
          rw [List.take_of_length_le (by have := HL.out; omega), List.take_of_length_le (by have := HL'.out; omega)] at this
          exact this
        go_wp2_with fail
        go_ret
        exact ⟨ret_bool (decide_eq_true HE.out).symm, ⟨rfl, rfl, rfl, Nat.le_refl _, fun _ _ => rfl⟩⟩
  · have HNE : Hid (la ≠ lb) := fun e => by subst e; omega
    have hne : ((n : Int) != (m : Int)) = true := by rw [bne_iff_ne]; omega
    clear h h' hl hl'
    go_enter Tryz.func16, Tryz.ntmps16
    go_wp2_with fail
    go_ret
    exact ⟨ret_bool (decide_eq_false HNE.out).symm, RowKit.Below.refl _ _⟩

/-- place(i, 6): a number from 0 to 5. -/
theorem place_any (i : Int) (hi : -9223372036854775808 ≤ i ∧ i ≤ 9223372036854775807) (w : World) :
    Calls Tryz.prog 19 #[.int .i64 i, .int .i64 6] w fun e w' => ∃ k : Nat, k < 6 ∧ e = .returned (.int .i64 k) ∧ w = w' := by
  by_cases h0 : i < 0
  · obtain ⟨j, hj⟩ : ∃ j : Nat, (j : Int) = -(i + 1) := ⟨(-(i + 1)).toNat, by omega⟩
    go_enter Tryz.func19, Tryz.ntmps19
    go_wp2_with fail
    go_ret
    refine ⟨j % 6, by omega, ret_int ?_, rfl⟩
    show -(i + 1).tmod 6 = _
    rw [show i + 1 = -(j : Int) from by omega, Int.neg_tmod, Int.neg_neg]
    exact (Int.ofNat_tmod j 6).symm
  · obtain ⟨j, rfl⟩ : ∃ j : Nat, i = j := ⟨i.toNat, by omega⟩
    go_enter Tryz.func19, Tryz.ntmps19
    go_wp2_with fail
    go_ret
    exact ⟨j % 6, by omega, ret_int (by omega), rfl⟩

def nanB (b : Nat) : Bool := FloatKind.f64.format.order b b != some .eq
def bitsB (b : Nat) : Nat := if nanB b then 0x7FF8000000000001 else b
def sameB (a b : Nat) : Bool := decide (bitsB a = bitsB b)
set_option maxRecDepth 100000 in
theorem bits_any (b : Nat) (w : World) : Calls Tryz.prog 80 #[.float .f64 b] w fun e w' => e = .returned (.int .u64 (bitsB b)) ∧ w = w' := by
  have h1 : ∀ W : World, (callFunc 120 #[.float .f64 b]).run Tryz.prog W = .ok (.value (.int .u64 b)) W := fun W => by kernel_rfl
  unfold bitsB nanB
  cases hn : (FloatKind.f64.format.order b b != some .eq) with
  | true =>
    go_enter Tryz.func80, Tryz.ntmps80
    go_wp2_with fail
    go_ret
    exact ⟨rfl, rfl⟩
  | false =>
    go_enter Tryz.func80, Tryz.ntmps80
    go_wp2_with fail
    go_ret
    exact ⟨rfl, rfl⟩
theorem same_any (a b : Nat) (w : World) : Calls Tryz.prog 42 #[.float .f64 a, .float .f64 b] w fun e w' => e = .returned (.bool (sameB a b)) ∧ w = w' := by
  unfold sameB
  go_enter Tryz.func42, Tryz.ntmps42
  go_wp2_with (go_at_call 80; refine (bits_any _ _).mono ?_; rintro e w' ⟨rfl, rfl⟩)
  go_ret
  refine ⟨ret_bool ?_, rfl⟩
  show ((bitsB a : Int) == (bitsB b : Int)) = _
  by_cases h : bitsB a = bitsB b
  · rw [h]; simp
  · rw [decide_eq_false h, beq_eq_false_iff_ne]; omega
end Go.Proofs.YtefdoineacfbhaaGreatDoor
