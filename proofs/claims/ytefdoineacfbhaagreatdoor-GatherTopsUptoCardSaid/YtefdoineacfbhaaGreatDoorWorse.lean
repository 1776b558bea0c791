/- pile.Best's own comparison: which of two places is the worse. -/
import Derived.Test.YtefdoineacfbhaaGreatDoorLess
import Derived.Deep.DeepCutAuto
namespace Go.Proofs.YtefdoineacfbhaaGreatDoor
open Go Go.Proofs Go.Shelf Go.RowKit Go.Lib Go.Sort

/-- An entry of the pile: an element (its labels' value, its datum), its place in the list, when it came. -/
abbrev Ent := (Value × El) × Nat × Nat
def placeV (e : Ent) : Value := .agg #[e.1.1, .float .f64 e.1.2.2, .int .i64 e.2.1]
def lessE (top : Bool) (a b : Ent) : Bool := lessF top a.1.2.2 b.1.2.2
def worseP (top : Bool) : Ent → Ent → Bool := lexLt (fun a b => lessE top b a) (fun a b => decide (b.2.1 < a.2.1))
def aheadP (top : Bool) : Ent → Ent → Bool := lexLt (worseP top) (fun a b => decide (a.2.2 < b.2.2))
theorem lessE_swo (top : Bool) : SWO (lessE top) := ⟨fun x => (lessF_swo top).irrefl _, fun x y z => (lessF_swo top).trans _ _ _, fun x y z => (lessF_swo top).ntrans _ _ _⟩
theorem worseP_swo (top : Bool) : SWO (worseP top) :=
  lexLt_swo (flip_swo (lessE_swo top)) ⟨fun x => by simp, fun x y z h1 h2 => by simp at *; omega, fun x y z h1 h2 => by simp at *; omega⟩
theorem aheadP_swo (top : Bool) : SWO (aheadP top) :=
  lexLt_swo (worseP_swo top) ⟨fun x => by simp, fun x y z h1 h2 => by simp at *; omega, fun x y z h1 h2 => by simp at *; omega⟩

set_option maxHeartbeats 2000000 in
theorem worse_any (op : Agg) (wo : Bool) (labs : Value) (param : Nat) (text : ByteArray) (g f : Nat) (a b : Ent) (w : World)
    (hg : Blk w g 27 (gathV op wo labs param text)) (hf : Blk w f 112 #[.func (.func 72) #[] #[.pointer (some ⟨g, 0, none⟩)]]) :
    Calls Tryz.prog 111 #[placeV a, placeV b, .pointer (some ⟨f, 0, none⟩)] w fun e w' => e = .returned (.bool (worseP (isTop op) a b)) ∧ Grows w w' := by
  have hcell : w.cell? ⟨f, 0, none⟩ = some (.func (.func 72) #[] #[.pointer (some ⟨g, 0, none⟩)]) := hf.cell 0
  have hlt := hf.lt
  unfold placeV
  obtain ⟨⟨av, ax⟩, aa, ac⟩ := a
  obtain ⟨⟨bv, bx⟩, ba, bc⟩ := b
  dsimp only
  have hsz := hf.lt
  have HL : Hid (∀ W x y bx bY, RowKit.Below w.heap.size w W → Calls Tryz.prog 72 #[.agg #[x, .float .f64 bx], .agg #[y, .float .f64 bY], .pointer (some ⟨g, 0, none⟩)] W fun e w' => e = .returned (.bool (lessF (isTop op) bx bY)) ∧ Grows W w') :=
    fun W x y bx bY hb => chosenLess_any op wo labs param text g x y bx bY W (hg.below hb hg.lt)
  have HW : Hid (Grows w ((w.alloc (.cells #[av, .float .f64 ax.2, .int .i64 aa] 143)).alloc (.cells #[bv, .float .f64 bx.2, .int .i64 ba] 143))) := ((Grows.refl w).alloc _).alloc _
  clear hg hf
  have QS : Hid (∀ w2, Grows ((w.alloc (.cells #[av, .float .f64 ax.2, .int .i64 aa] 143)).alloc (.cells #[bv, .float .f64 bx.2, .int .i64 ba] 143)) w2 → (w2.cell? ⟨w.heap.size, 0, none⟩ = some av ∧ w2.cell? ⟨w.heap.size, 1, none⟩ = some (.float .f64 ax.2) ∧ w2.cell? ⟨w.heap.size, 2, none⟩ = some (.int .i64 aa)) ∧
      (w2.cell? ⟨w.heap.size + 1, 0, none⟩ = some bv ∧ w2.cell? ⟨w.heap.size + 1, 1, none⟩ = some (.float .f64 bx.2) ∧ w2.cell? ⟨w.heap.size + 1, 2, none⟩ = some (.int .i64 ba)) ∧
      w2.cell? ⟨f, 0, none⟩ = some (.func (.func 72) #[] #[.pointer (some ⟨g, 0, none⟩)])) := by
    intro w2 hg2
    refine ⟨⟨?_, ?_, ?_⟩, ⟨?_, ?_, ?_⟩, ?_⟩
    · exact (hg2.cell (by simp; omega)).trans (by simp)
    · exact (hg2.cell (by simp; omega)).trans (by simp)
    · exact (hg2.cell (by simp; omega)).trans (by simp)
    · exact (hg2.cell (by simp)).trans (by simp)
    · exact (hg2.cell (by simp)).trans (by simp)
    · exact (hg2.cell (by simp)).trans (by simp)
    · refine (hg2.cell (by simp; omega)).trans ?_
      rw [World.cell?_alloc_lt _ _ ⟨f, 0, none⟩ (by simp; omega), World.cell?_alloc_lt _ _ ⟨f, 0, none⟩ hlt]
      exact hcell
  cases h1 : lessF (isTop op) bx.2 ax.2 with
  | true =>
    go_enter Tryz.func111, Tryz.ntmps111
    go_wp2_with (go_at_call 72
                 refine (HL.out _ _ _ _ _ HW.out.below).mono ?_
                 rw [h1]
                 rintro e w2 ⟨rfl, hg2⟩)
    go_ret
    exact ⟨by simp [worseP, lexLt, lessE, h1], HW.out.trans hg2⟩
  | false =>
    go_enter Tryz.func111, Tryz.ntmps111
    go_upto_region 3 with (go_at_call 72
                           refine (HL.out _ _ _ _ _ HW.out.below).mono ?_
                           rw [h1]
                           rintro e w2 ⟨rfl, hg2⟩
                           obtain ⟨⟨q0, q1, q2⟩, ⟨r0, r1, r2⟩, f2⟩ := QS.out w2 hg2
                           have HW2 := Lib.hid (HW.out.trans hg2)
                           have HG2 := Lib.hid hg2
                           clear hg2)
    cases h2 : lessF (isTop op) ax.2 bx.2 with
    | true =>
      go_wp2_with (go_at_call 72
                   refine (HL.out _ _ _ _ _ HW2.out.below).mono ?_
                   rw [h2]
                   rintro e w3 ⟨rfl, hg3⟩
                   have HW3 := Lib.hid (HW2.out.trans hg3)
                   clear hg3)
      go_ret
      exact ⟨by simp [worseP, lexLt, lessE, h1, h2], HW3.out⟩
    | false =>
      go_wp2_with (go_at_call 72
                   refine (HL.out _ _ _ _ _ HW2.out.below).mono ?_
                   rw [h2]
                   rintro e w3 ⟨rfl, hg3⟩
                   obtain ⟨⟨s0, s1, s2⟩, ⟨t0, t1, t2⟩, f3⟩ := QS.out w3 (HG2.out.trans hg3)
                   have HW3 := Lib.hid (HW2.out.trans hg3)
                   clear hg3)
      go_ret
      exact ⟨by simp [worseP, lexLt, lessE, h1, h2], HW3.out⟩
end Go.Proofs.YtefdoineacfbhaaGreatDoor
