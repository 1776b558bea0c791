/- The pile: an entry goes up. -/
import Derived.Test.YtefdoineacfbhaaGreatDoorPileS
namespace Go.Proofs.YtefdoineacfbhaaGreatDoor
open Go Go.Proofs Go.Shelf Go.RowKit Go.Lib Go.Sort

def dEnt : Ent := ((.slice none 0 0, ([], 0)), 0, 0)
def fE (es : List Ent) (k : Nat) : Ent := es.getD k dEnt
theorem fE_at {es : List Ent} {k : Nat} (h : k < es.length) : fE es k = es[k] := by simp [fE, h]
theorem fE_swap (es : List Ent) (i j : Nat) (hi : i < es.length) (hj : j < es.length) : fE (swapL es i j hi hj) = sw (fE es) i j := by
  funext k
  unfold fE sw swapL
  rw [List.getD_eq_getElem?_getD, List.getElem?_set, List.getElem?_set, List.length_set]
  by_cases h1 : k = j
  · subst h1; simp [hj, hi]
  · rw [if_neg (fun e => h1 e.symm), if_neg h1]
    by_cases h2 : k = i
    · subst h2; simp [hi, hj]
    · rw [if_neg (fun e => h2 e.symm), if_neg h2]; simp
theorem swapL_perm (es : List Ent) (i j : Nat) (hi : i < es.length) (hj : j < es.length) : (swapL es i j hi hj).Perm es := List.set_set_perm hi hj

theorem grown_any_of {w w' : World} (h : RowKit.Below w.heap.size w w') (r : Option Nat) : w.grownBy w' r := ⟨h.os, h.tape, h.output, h.size, fun k hk _ => h.block k hk⟩
theorem PileAt.below {w w' : World} {B p f nx : Nat} {gv : Value} {es : List Ent} (h : PileAt w B p f gv nx es) (hb : RowKit.Below w.heap.size w w') : PileAt w' B p f gv nx es :=
  ⟨h.1, h.2.1.below hb h.2.1.lt, own_below h.2.2.1 hb, h.2.2.2⟩
theorem PileAt.base {w : World} {B p f nx : Nat} {gv : Value} {es : List Ent} (h : PileAt w B p f gv nx es) : ∀ g, gv.ownBlock = some g → B ≤ g := fun g hg => (row_lt h.2.2.1 hg).1
theorem EnvW.size {w : World} {B f : Nat} {op : Agg} (h : EnvW w B op f) : B ≤ w.heap.size := by
  obtain ⟨g, wo, labs, param, text, h1, h2, h3, h4, h5⟩ := h; exact h3
theorem EnvW.grown {w w' : World} {B f : Nat} {op : Agg} {gv : Value} (h : EnvW w B op f) (hg : w.grownBy w' gv.ownBlock) (hB : ∀ g, gv.ownBlock = some g → B ≤ g) : EnvW w' B op f :=
  h.below ((RowKit.Below.refl _ _).grown hg h.size hB)

set_option maxHeartbeats 2000000 in
theorem up_any (B : Nat) (op : Agg) (f p : Nat) (gv : Value) (nx : Nat) (es : List Ent) (i : Nat) (hi : i < es.length) (hn : es.length ≤ 2097152) (w : World)
    (hE : EnvW w B op f) (hP : PileAt w B p f gv nx es) (hU : UpF (aheadP (isTop op)) es.length (fE es) i) :
    Calls Tryz.prog 139 #[.pointer (some ⟨p, 0, none⟩), .int .i64 i] w fun e w' => e = .returned (.tuple #[]) ∧
      ∃ es', es'.Perm es ∧ HeapF (aheadP (isTop op)) es.length (fE es') ∧ PileAt w' B p f gv nx es' ∧ w.grownBy w' gv.ownBlock := by
  have HE := Lib.hid hE
  have HB := Lib.hid hP.base
  have HP := Lib.hid hP
  have HU := Lib.hid hU
  clear hE hP hU
  go_enter Tryz.func139, Tryz.ntmps139
  go_wp2_with fail
  go_loopw [1] (fun iv wr => ∃ (j : Nat) (xs : List Ent), iv = .int .i64 j ∧ j < es.length ∧ Hid (xs.Perm es ∧ UpF (aheadP (isTop op)) es.length (fE xs) j) ∧ Hid (PileAt wr B p f gv nx xs) ∧ Hid (w.grownBy wr gv.ownBlock)) (fun iv _ => (intOf iv).toNat)
  case atStart => exact ⟨i, es, rfl, hi, ⟨List.Perm.refl _, HU.out⟩, HP.out, World.grownBy.refl _ _⟩
  case round =>
    obtain ⟨j, xs, rfl, hj, HX, HPX, HG⟩ := hrel
    by_cases h0 : 0 < j
    · obtain ⟨a, ha⟩ : ∃ a, (j - 1) / 2 = a := ⟨_, rfl⟩
      have haj : a < j := by omega
      have hxl : xs.length = es.length := HX.out.1.length_eq
      have hjx : j < xs.length := by omega
      have hax : a < xs.length := by omega
      have HA : Hid (∀ (W : World) (x y : Int), x = j → y = a → RowKit.Below wr.heap.size wr W → Calls Tryz.prog 157 #[.pointer (some ⟨p, 0, none⟩), .int .i64 x, .int .i64 y] W
          fun e w' => e = .returned (.bool (aheadP (isTop op) (fE xs j) (fE xs a))) ∧ Grows W w') := by
        intro W x y hx hy hb
        subst hx hy
        rw [fE_at (by omega), fE_at (by omega)]
        exact ahead_any B op f p gv nx xs j a (by omega) (by omega) W ((HE.out.grown HG.out HB.out).below (hb.mono (by have := HE.out.size; have := HG.out.size; omega))) (HPX.out.below hb)
      have HS : Hid (∀ (W : World) (x y : Int), x = j → y = a → RowKit.Below wr.heap.size wr W → Calls Tryz.prog 140 #[.pointer (some ⟨p, 0, none⟩), .int .i64 x, .int .i64 y] W
          fun e w' => e = .returned (.tuple #[]) ∧ PileAt w' B p f gv nx (swapL xs j a hjx hax) ∧ W.grownBy w' gv.ownBlock) := by
        intro W x y hx hy hb
        subst hx hy
        exact swap_any B f p gv nx xs j a (by omega) (by omega) W (HPX.out.below hb)
      have hya : ((j : Int) - 1) / 2 = a := by omega
      have HYA := Lib.hid hya
      have HAA := Lib.hid ha
      have HXL := Lib.hid hxl
      clear hya ha hxl
      cases hc : aheadP (isTop op) (fE xs j) (fE xs a) with
      | false =>
        rw [hc] at HA
        have HC := Lib.hid hc
        clear hc
        go_wp2_with (go_at_call 157; refine (HA.out _ _ _ rfl HYA.out (RowKit.Below.refl _ _)).mono ?_; rintro e w2 ⟨rfl, hg2⟩)
        refine bodyPost_ret (results_none rfl _ _ _) rfl ?_
        exact ⟨rfl, xs, HX.out.1, up_done HX.out.2 (.inr (by rw [HAA.out]; exact HC.out)), HPX.out.below hg2.below, HG.out.trans (grown_any_of hg2.below _)⟩
      | true =>
        rw [hc] at HA
        have HC := Lib.hid hc
        clear hc
        go_wp2_with (first
          | (go_at_call 157; refine (HA.out _ _ _ rfl HYA.out (RowKit.Below.refl _ _)).mono ?_; rintro e w2 ⟨rfl, hg2⟩; have HG2 := Lib.hid hg2; clear hg2)
          | (go_at_call 140; refine (HS.out _ _ _ rfl HYA.out HG2.out.below).mono ?_; rintro e w3 ⟨rfl, hp3, hg3⟩; have HG3 := Lib.hid hg3; have HP3 := Lib.hid hp3; clear hg3 hp3))
        go_roundw
        case rel =>
          refine ⟨a, _, by rw [HYA.out], by omega, ⟨(swapL_perm xs j a hjx hax).trans HX.out.1, ?_⟩, HP3.out, (HG.out.trans (grown_any_of HG2.out.below _)).trans HG3.out⟩
          rw [fE_swap, ← HAA.out]
          exact up_step (aheadP_swo _) HX.out.2 h0 hj (by rw [HAA.out]; exact HC.out)
        case measure => simp [intOf]; omega
    · go_wp2_with fail
      go_end0
      exact ⟨rfl, xs, HX.out.1, up_done HX.out.2 (.inl (by omega)), HPX.out, HG.out⟩
end Go.Proofs.YtefdoineacfbhaaGreatDoor
