/- math.Abs, math.IsInf; the compensated sum at two plain numbers: what awake asks. -/
import Derived.Test.YtefdoineacfbhaaGreatDoorSumm
namespace Go.Proofs.YtefdoineacfbhaaGreatDoor
open Go Go.Proofs Go.Shelf Go.RowKit Go.Lib Go.Sort

attribute [local go_sem] run_store_float

def absB (b : Nat) : Nat := (bits BinOp.andNot IntKind.u64 (b : Int) 9223372036854775808).toNat
def infB (b : Nat) : Bool := FloatKind.f64.format.order (absB b) 9218868437227405311 == some .gt

set_option maxRecDepth 100000 in
theorem abs_any (b : Nat) (w : World) : Calls Tryz.prog 88 #[.float .f64 b] w fun e w' => e = .returned (.float .f64 (absB b)) ∧ w = w' := by
  have h1 : ∀ W : World, (callFunc 120 #[.float .f64 b]).run Tryz.prog W = .ok (.value (.int .u64 b)) W := fun W => by kernel_rfl
  have h2 : ∀ (W : World) (n : Int), (callFunc 129 #[.int .u64 n]).run Tryz.prog W = .ok (.value (.float .f64 n.toNat)) W := fun W n => by kernel_rfl
  go_enter Tryz.func88, Tryz.ntmps88
  go_wp2_with fail
  go_ret
  exact ⟨rfl, rfl⟩
set_option maxRecDepth 100000 in
theorem isInf_any (b : Nat) (w : World) : Calls Tryz.prog 128 #[.float .f64 b, .int .i64 0] w fun e w' => e = .returned (.bool (infB b)) ∧ w = w' := by
  unfold infB
  go_enter Tryz.func128, Tryz.ntmps128
  go_wp2_with (go_at_call 88; refine (abs_any _ _).mono ?_; rintro e w' ⟨rfl, rfl⟩)
  go_ret
  exact ⟨rfl, rfl⟩
theorem infinite_any (b : Nat) (w : World) : Calls Tryz.prog 98 #[.float .f64 b] w fun e w' => e = .returned (.bool (infB b)) ∧ w = w' := by
  go_enter Tryz.func98, Tryz.ntmps98
  go_wp2_with (go_at_call 128; refine (isInf_any _ _).mono ?_; rintro e w' ⟨rfl, rfl⟩)
  go_ret
  exact ⟨rfl, rfl⟩

theorem run_fadd {P : Program} {t x y r : Nat} (h : FloatKind.f64.format.add x y = some r) (W : World) : (binOp .add t (.float .f64 x) (.float .f64 y)).run P W = .ok (.float .f64 r) W := by
  simp [binOp, Op.floatArith, h]
theorem run_fsub {P : Program} {t x y r : Nat} (h : FloatKind.f64.format.sub x y = some r) (W : World) : (binOp .sub t (.float .f64 x) (.float .f64 y)).run P W = .ok (.float .f64 r) W := by
  simp [binOp, Op.floatArith, h]

set_option maxHeartbeats 2000000 in
set_option maxRecDepth 100000 in
theorem tadd_plain (t s c v n d1 d2 c2 : Nat) (w : World) (hb : Blk w t 133 #[.float .f64 s, .float .f64 c])
    (h1 : FloatKind.f64.format.add s v = some n) (h2 : infB n = false) (h3 : FloatKind.f64.format.order (absB s) (absB v) = some .lt)
    (h4 : FloatKind.f64.format.sub v n = some d1) (h5 : FloatKind.f64.format.add d1 s = some d2) (h6 : FloatKind.f64.format.add c d2 = some c2) :
    Calls Tryz.prog 95 #[.pointer (some ⟨t, 0, none⟩), .float .f64 v] w fun e w' => e = .returned (.tuple #[]) ∧ Blk w' t 133 #[.float .f64 n, .float .f64 c2] ∧ Chg (fun k => k = t) w w' := by
  have c0 : w.cell? ⟨t, 0, none⟩ = some (.float .f64 s) := hb.cell 0
  have c1 : w.cell? ⟨t, 1, none⟩ = some (.float .f64 c) := hb.cell 1
  have f0 : w.frozen? ⟨t, 0, none⟩ = false := hb.frozen 0
  have f1 : w.frozen? ⟨t, 1, none⟩ = false := hb.frozen 1
  have H := Lib.hid hb
  have e1 := fun W => run_fadd (P := Tryz.prog) (t := 25) h1 W
  have e4 := fun W => run_fsub (P := Tryz.prog) (t := 25) h4 W
  have e5 := fun W => run_fadd (P := Tryz.prog) (t := 25) h5 W
  have e6 := fun W => run_fadd (P := Tryz.prog) (t := 25) h6 W
  have HI : Hid (∀ W : World, Calls Tryz.prog 98 #[.float .f64 n] W fun e w' => e = .returned (.bool false) ∧ W = w') := fun W => by
    have := infinite_any n W
    rwa [h2] at this
  clear hb h1 h2 h4 h5 h6
  go_enter Tryz.func95, Tryz.ntmps95
  go_wp2_with (first
    | (go_at_call 98; refine (HI.out _).mono ?_; rintro e w' ⟨rfl, rfl⟩)
    | (go_at_call 88; refine (abs_any _ _).mono ?_; rintro e w' ⟨rfl, rfl⟩))
  go_big_region
  go_wp2
  go_end0
  have hb2 := (H.out.set_ 1 (.float .f64 c2)).set_ 0 (.float .f64 n)
  exact ⟨rfl, Blk.drew (by simpa using hb2), (((Chg.refl (fun k => k = t) w).setCell (p := ⟨t, 1, none⟩) (.inr rfl) _).setCell (p := ⟨t, 0, none⟩) (.inr rfl) _).drew⟩

set_option maxHeartbeats 2000000 in
theorem tanswer_plain (t s c r : Nat) (w : World) (hb : Blk w t 133 #[.float .f64 s, .float .f64 c]) (h1 : FloatKind.f64.format.add s c = some r) :
    Calls Tryz.prog 96 #[.pointer (some ⟨t, 0, none⟩)] w fun e w' => e = .returned (.float .f64 r) ∧ RowKit.Below w.heap.size w w' := by
  have c0 : w.cell? ⟨t, 0, none⟩ = some (.float .f64 s) := hb.cell 0
  have c1 : w.cell? ⟨t, 1, none⟩ = some (.float .f64 c) := hb.cell 1
  have e1 := fun W => run_fadd (P := Tryz.prog) (t := 25) h1 W
  clear hb h1
  go_enter Tryz.func96, Tryz.ntmps96
  go_wp2_with fail
  go_big_region
  go_wp2
  go_ret
  exact ⟨rfl, (Below.refl _ _).drew⟩

def B1 : Nat := 4607182418800017408
def B2 : Nat := 4611686018427387904
def B3 : Nat := 4613937818241073152

set_option maxHeartbeats 4000000 in
set_option maxRecDepth 100000 in
/-- The sum of 1 and 2 is 3. -/
theorem sum_12 (A : Option Addr) (c : Nat) (w : World) (hr : Reads w w.heap.size 1 A 2 [.float .f64 B1, .float .f64 B2]) :
    Calls Tryz.prog 59 #[.slice A 2 c] w fun e w' => e = .returned (.float .f64 B3) ∧ RowKit.Below w.heap.size w w' := by
  obtain ⟨b, off, rfl, hbl, hc⟩ := hr.at_ (k := 0) (by omega)
  have c0 : w.cell? ⟨b, off, none⟩ = some (.float .f64 B1) := hc 0 _ rfl
  have c1 : w.cell? ⟨b, off + 1, none⟩ = some (.float .f64 B2) := hc 1 _ rfl
  have A1 : Hid (∀ W, Blk W w.heap.size 133 #[.float .f64 0, .float .f64 0] → Calls Tryz.prog 95 #[.pointer (some ⟨w.heap.size, 0, none⟩), .float .f64 B1] W fun e w' => e = .returned (.tuple #[]) ∧ Blk w' w.heap.size 133 #[.float .f64 B1, .float .f64 0] ∧ Chg (fun k => k = w.heap.size) W w') :=
    fun W hW => tadd_plain w.heap.size 0 0 B1 B1 0 0 0 W hW (by decide +kernel) (by decide +kernel) (by decide +kernel) (by decide +kernel) (by decide +kernel) (by decide +kernel)
  have A2 : Hid (∀ W, Blk W w.heap.size 133 #[.float .f64 B1, .float .f64 0] → Calls Tryz.prog 95 #[.pointer (some ⟨w.heap.size, 0, none⟩), .float .f64 B2] W fun e w' => e = .returned (.tuple #[]) ∧ Blk w' w.heap.size 133 #[.float .f64 B3, .float .f64 0] ∧ Chg (fun k => k = w.heap.size) W w') :=
    fun W hW => tadd_plain w.heap.size B1 0 B2 B3 13830554455654793216 0 0 W hW (by decide +kernel) (by decide +kernel) (by decide +kernel) (by decide +kernel) (by decide +kernel) (by decide +kernel)
  have A3 : Hid (∀ W, Blk W w.heap.size 133 #[.float .f64 B3, .float .f64 0] → Calls Tryz.prog 96 #[.pointer (some ⟨w.heap.size, 0, none⟩)] W fun e w' => e = .returned (.float .f64 B3) ∧ RowKit.Below W.heap.size W w') :=
    fun W hW => tanswer_plain w.heap.size B3 0 B3 W hW (by decide +kernel)
  have HC : Hid (w.cell? ⟨b, off, none⟩ = some (.float .f64 B1) ∧ w.cell? ⟨b, off + 1, none⟩ = some (.float .f64 B2)) := ⟨c0, c1⟩
  clear hc hr c0 c1
  generalize B1 = x1 at *
  generalize B2 = x2 at *
  generalize B3 = x3 at *
  go_enter Tryz.func59, Tryz.ntmps59
  go_wp2_with fail
  go_loopw [8] (fun iv wr => ∃ k : Int, iv = .int .i64 k ∧ ((k = 0 ∧ Hid (Blk wr w.heap.size 133 #[.float .f64 0, .float .f64 0])) ∨ (k = 1 ∧ Hid (Blk wr w.heap.size 133 #[.float .f64 x1, .float .f64 0])) ∨ (k = 2 ∧ Hid (Blk wr w.heap.size 133 #[.float .f64 x3, .float .f64 0]))) ∧ Hid (RowKit.Below w.heap.size w wr)) (fun iv _ => 2 - (intOf iv).toNat)
  case atStart => exact ⟨0, rfl, .inl ⟨rfl, Blk.new _ _ _⟩, (Below.refl _ _).alloc (Nat.le_refl _) _⟩
  case round =>
    obtain ⟨k, rfl, hk, HB⟩ := hrel
    have c0 := (HB.out.cell (p := ⟨b, off, none⟩) hbl).trans HC.out.1
    have c1 := (HB.out.cell (p := ⟨b, off + 1, none⟩) hbl).trans HC.out.2
    rcases hk with ⟨rfl, HT⟩ | ⟨rfl, HT⟩ | ⟨rfl, HT⟩
    · go_wp2_with (go_at_call 95; refine (A1.out _ HT.out).mono ?_; rintro e w2 ⟨rfl, hb2, hc2⟩)
      go_roundw
      case rel => exact ⟨1, rfl, .inr (.inl ⟨rfl, hb2⟩), HB.out.trans (hc2.below HB.out.size (fun k hk e => by omega))⟩
      case measure => simp [intOf]
    · go_wp2_with (go_at_call 95; refine (A2.out _ HT.out).mono ?_; rintro e w2 ⟨rfl, hb2, hc2⟩)
      go_roundw
      case rel => exact ⟨2, rfl, .inr (.inr ⟨rfl, hb2⟩), HB.out.trans (hc2.below HB.out.size (fun k hk e => by omega))⟩
      case measure => simp [intOf]
    · go_wp2_with (go_at_call 96; refine (A3.out _ HT.out).mono ?_; rintro e w2 ⟨rfl, hb2⟩)
      go_ret
      exact ⟨rfl, HB.out.trans (hb2.mono HB.out.size)⟩
end Go.Proofs.YtefdoineacfbhaaGreatDoor
