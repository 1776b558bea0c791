/- The pile: an exchange. -/
import Derived.Test.YtefdoineacfbhaaGreatDoorPileW
namespace Go.Proofs.YtefdoineacfbhaaGreatDoor
open Go Go.Proofs Go.Shelf Go.RowKit Go.Lib Go.Sort

attribute [local go_sem] run_store_float

def swapL (es : List Ent) (i j : Nat) (hi : i < es.length) (hj : j < es.length) : List Ent := (es.set i es[j]).set j es[i]

theorem own_set {w : World} {base size n g cap : Nat} {e : TypeId} {xs : List Value} (h : w.ownsRow base e size (.slice (some ⟨g, 0, none⟩) n cap) n xs) {q : Nat} (hq : q < n * size) (u : Value) :
    (w.setCell ⟨g, q, none⟩ u).ownsRow base e size (.slice (some ⟨g, 0, none⟩) n cap) n (xs.set q u) := by
  refine ⟨by rw [List.length_set]; exact h.1, ?_⟩
  rcases h.2 with ⟨hv, _⟩ | ⟨g', cap', cur, hv, hb, hh, h1, h2, h3, h4⟩
  · cases hv
  · cases hv
    have hb' : Blk w g e cur := hh
    have hc := hb'.set_ q u
    refine .inr ⟨g, cap, cur.setIfInBounds q u, rfl, hb, hc, h1, h2, by simpa using h3, ?_⟩
    rw [← h4, Array.toList_setIfInBounds, List.take_set]

theorem cellsP_set (es : List Ent) (i : Nat) (hi : i < es.length) (e : Ent) :
    cellsP (es.set i e) = ((((cellsP es).set (i * 4) e.1.1).set (i * 4 + 1) (.float .f64 e.1.2.2)).set (i * 4 + 2) (.int .i64 e.2.1)).set (i * 4 + 3) (.int .u64 e.2.2) := by
  induction es generalizing i with
  | nil => simp at hi
  | cons x es ih =>
    cases i with
    | zero => rfl
    | succ i =>
      have hx : cellsP (x :: es) = x.1.1 :: .float .f64 x.1.2.2 :: .int .i64 x.2.1 :: .int .u64 x.2.2 :: cellsP es := rfl
      have hy : cellsP ((x :: es).set (i + 1) e) = x.1.1 :: .float .f64 x.1.2.2 :: .int .i64 x.2.1 :: .int .u64 x.2.2 :: cellsP (es.set i e) := rfl
      rw [hx, hy, ih i (by simpa using hi)]
      rw [show (i + 1) * 4 = i * 4 + 1 + 1 + 1 + 1 from by omega]
      rfl

/-- One entry written over, cell by cell. -/
theorem own_setEnt {w : World} {base g cap : Nat} {t : TypeId} {es : List Ent} (h : w.ownsRow base t 4 (.slice (some ⟨g, 0, none⟩) es.length cap) es.length (cellsP es)) {i : Nat} (hi : i < es.length) (e : Ent) :
    ((((w.setCell ⟨g, i * 4, none⟩ e.1.1).setCell ⟨g, i * 4 + 1, none⟩ (.float .f64 e.1.2.2)).setCell ⟨g, i * 4 + 2, none⟩ (.int .i64 e.2.1)).setCell ⟨g, i * 4 + 3, none⟩ (.int .u64 e.2.2)).ownsRow base t 4 (.slice (some ⟨g, 0, none⟩) es.length cap) es.length (cellsP (es.set i e)) := by
  rw [cellsP_set es i hi]
  exact own_set (own_set (own_set (own_set h (by omega) _) (by omega) _) (by omega) _) (by omega) _

theorem far4 {w : World} {g : Nat} {r : Nat} {t : TypeId} {cs : Array Value} (h : Blk w r t cs) (hne : r ≠ g) (o1 o2 o3 o4 : Nat) (u1 u2 u3 u4 : Value) :
    Blk ((((w.setCell ⟨g, o1, none⟩ u1).setCell ⟨g, o2, none⟩ u2).setCell ⟨g, o3, none⟩ u3).setCell ⟨g, o4, none⟩ u4) r t cs :=
  (((h.far (p := ⟨g, o1, none⟩) hne u1).far (p := ⟨g, o2, none⟩) hne u2).far (p := ⟨g, o3, none⟩) hne u3).far (p := ⟨g, o4, none⟩) hne u4
theorem grown4 (w : World) (g : Nat) (o1 o2 o3 o4 : Nat) (u1 u2 u3 u4 : Value) :
    w.grownBy ((((w.setCell ⟨g, o1, none⟩ u1).setCell ⟨g, o2, none⟩ u2).setCell ⟨g, o3, none⟩ u3).setCell ⟨g, o4, none⟩ u4) (some g) :=
  (((Lib.grownBy_setCell w g o1 u1).trans (Lib.grownBy_setCell _ g o2 u2)).trans (Lib.grownBy_setCell _ g o3 u3)).trans (Lib.grownBy_setCell _ g o4 u4)

theorem swapL_length (es : List Ent) (i j : Nat) (hi : i < es.length) (hj : j < es.length) : (swapL es i j hi hj).length = es.length := by simp [swapL]
theorem swapL_mem {es : List Ent} {i j : Nat} {hi : i < es.length} {hj : j < es.length} {e : Ent} (h : e ∈ swapL es i j hi hj) : e ∈ es := by
  unfold swapL at h
  rcases List.mem_or_eq_of_mem_set h with h | h
  · rcases List.mem_or_eq_of_mem_set h with h | h
    · exact h
    · rw [h]; exact List.getElem_mem _
  · rw [h]; exact List.getElem_mem _

/-- The pile behind an exchange. -/
theorem swap_post {B f p nx rb cap i j : Nat} {es : List Ent} (hi : i < es.length) (hj : j < es.length) {w : World} (hP : PileAt w B p f (.slice (some ⟨rb, 0, none⟩) es.length cap) nx es) (hpr : ¬ p = rb) (ei ej : Ent) (hei : es[i] = ei) (hej : es[j] = ej) :
    PileAt ((((((((w.setCell ⟨rb, i * 4, none⟩ ej.1.1).setCell ⟨rb, i * 4 + 1, none⟩ (.float .f64 ej.1.2.2)).setCell ⟨rb, i * 4 + 2, none⟩ (.int .i64 ej.2.1)).setCell ⟨rb, i * 4 + 3, none⟩ (.int .u64 ej.2.2)).setCell
      ⟨rb, j * 4, none⟩ ei.1.1).setCell ⟨rb, j * 4 + 1, none⟩ (.float .f64 ei.1.2.2)).setCell ⟨rb, j * 4 + 2, none⟩ (.int .i64 ei.2.1)).setCell ⟨rb, j * 4 + 3, none⟩ (.int .u64 ei.2.2)) B p f (.slice (some ⟨rb, 0, none⟩) es.length cap) nx (swapL es i j hi hj) := by
  have h1 := own_setEnt hP.2.2.1 hi ej
  have h2 := own_setEnt (es := es.set i ej) (by rw [List.length_set]; exact h1) (i := j) (by rw [List.length_set]; exact hj) ei
  refine ⟨hP.1, far4 (far4 hP.2.1 hpr _ _ _ _ _ _ _ _) hpr _ _ _ _ _ _ _ _, ?_, fun e he => hP.2.2.2 e (swapL_mem he)⟩
  rw [swapL_length]
  rw [List.length_set] at h2
  unfold swapL
  rw [hei, hej]
  exact h2
theorem PileAt.drew {w : World} {B p f nx : Nat} {gv : Value} {es : List Ent} (h : PileAt w B p f gv nx es) : PileAt w.drew B p f gv nx es := ⟨h.1, h.2.1.drew, h.2.2.1.drew, h.2.2.2⟩
theorem grown_drew {w w' : World} {r : Option Nat} (h : w.grownBy w' r) : w.grownBy w'.drew r := ⟨h.os, h.tape, h.output, h.size, h.block⟩
theorem pile_off {w : World} {B p f rb off cap n nx : Nat} {es : List Ent} (hP : PileAt w B p f (.slice (some ⟨rb, off, none⟩) n cap) nx es) : off = 0 ∧ ElT w rb 172 ∧ p ≠ rb := by
  have hT := ElT.of_row hP.2.2.1 (r := rb) rfl
  refine ⟨?_, hT, fun e => by subst e; have := hT.same ⟨_, hP.2.1⟩; cases this⟩
  rcases hP.2.2.1.2 with ⟨hv, _⟩ | ⟨g', cap', cur, hv, _⟩
  · cases hv
  · cases hv; rfl

set_option maxHeartbeats 4000000 in
theorem swap_same (B : Nat) (f p : Nat) (gv : Value) (nx : Nat) (es : List Ent) (i : Nat) (hi : i < es.length) (w : World)
    (hP : PileAt w B p f gv nx es) :
    Calls Tryz.prog 140 #[.pointer (some ⟨p, 0, none⟩), .int .i64 i, .int .i64 i] w fun e w' => e = .returned (.tuple #[]) ∧ PileAt w' B p f gv nx (swapL es i i hi hi) ∧ w.grownBy w' gv.ownBlock := by
  obtain ⟨A, cap, rfl⟩ := own_form hP.2.2.1
  obtain ⟨rb, off, rfl, hrb, hc⟩ := (Reads.of_own hP.2.2.1).at_ hi
  have xi := cellsP_get es i hi
  have si := hP.2.2.2 es[i] (List.getElem_mem _)
  obtain ⟨ei, hei⟩ : ∃ e, es[i] = e := ⟨_, rfl⟩
  rw [hei] at xi si
  have HEI := Lib.hid hei
  clear hei
  obtain ⟨⟨iv, ix⟩, ia, ic⟩ := ei
  dsimp only at xi si
  obtain ⟨Ai, ni, ci, rfl⟩ := si
  have a0 : w.cell? ⟨rb, off + i * 4, none⟩ = some (.slice Ai ni ci) := hc _ _ xi.1
  have a1 : w.cell? ⟨rb, off + i * 4 + 1, none⟩ = some (.float .f64 ix.2) := hc _ _ xi.2.1
  have a2 : w.cell? ⟨rb, off + i * 4 + 2, none⟩ = some (.int .i64 ia) := hc _ _ xi.2.2.1
  have a3 : w.cell? ⟨rb, off + i * 4 + 3, none⟩ = some (.int .u64 ic) := hc _ _ xi.2.2.2
  have p1 : w.cell? ⟨p, 1, none⟩ = some (.slice (some ⟨rb, off, none⟩) es.length cap) := hP.2.1.cell 1
  obtain ⟨hoff, ⟨cs, hbk⟩, hpr⟩ := pile_off hP
  have fz : ∀ o, w.frozen? ⟨rb, o, none⟩ = false := fun o => hbk.frozen o
  have HOFF := Lib.hid hoff
  clear hbk hoff
  have hq0 : (0 : Int) ≤ (i : Int) := by omega
  have hq1 : (i : Int) < (es.length : Int) := by omega
  have hq2 : ((i : Int)).toNat = i := by omega
  clear hc xi
  have HP := Lib.hid hP
  go_enter Tryz.func140, Tryz.ntmps140
  go_upto_region 0 with fail
  go_big_region
  go_wp2
  go_end0
  have hoff := HOFF.out
  subst hoff
  rw [Nat.zero_add]
  exact ⟨rfl, (swap_post hi hi HP.out hpr _ _ HEI.out HEI.out).drew, grown_drew ((grown4 _ _ _ _ _ _ _ _ _ _).trans (grown4 _ _ _ _ _ _ _ _ _ _))⟩

set_option maxHeartbeats 4000000 in
theorem swap_any (B : Nat) (f p : Nat) (gv : Value) (nx : Nat) (es : List Ent) (i j : Nat) (hi : i < es.length) (hj : j < es.length) (w : World)
    (hP : PileAt w B p f gv nx es) :
    Calls Tryz.prog 140 #[.pointer (some ⟨p, 0, none⟩), .int .i64 i, .int .i64 j] w fun e w' => e = .returned (.tuple #[]) ∧ PileAt w' B p f gv nx (swapL es i j hi hj) ∧ w.grownBy w' gv.ownBlock := by
  obtain ⟨A, cap, rfl⟩ := own_form hP.2.2.1
  obtain ⟨rb, off, rfl, hrb, hc⟩ := (Reads.of_own hP.2.2.1).at_ hi
  have xi := cellsP_get es i hi
  have xj := cellsP_get es j hj
  have si := hP.2.2.2 es[i] (List.getElem_mem _)
  have sj := hP.2.2.2 es[j] (List.getElem_mem _)
  obtain ⟨ei, hei⟩ : ∃ e, es[i] = e := ⟨_, rfl⟩
  obtain ⟨ej, hej⟩ : ∃ e, es[j] = e := ⟨_, rfl⟩
  rw [hei] at xi si
  rw [hej] at xj sj
  have HEI := Lib.hid hei
  have HEJ := Lib.hid hej
  clear hei hej
  obtain ⟨⟨iv, ix⟩, ia, ic⟩ := ei
  obtain ⟨⟨jv, jx⟩, ja, jc⟩ := ej
  dsimp only at xi xj si sj
  obtain ⟨Ai, ni, ci, rfl⟩ := si
  obtain ⟨Aj, nj, cj, rfl⟩ := sj
  have a0 : w.cell? ⟨rb, off + i * 4, none⟩ = some (.slice Ai ni ci) := hc _ _ xi.1
  have a1 : w.cell? ⟨rb, off + i * 4 + 1, none⟩ = some (.float .f64 ix.2) := hc _ _ xi.2.1
  have a2 : w.cell? ⟨rb, off + i * 4 + 2, none⟩ = some (.int .i64 ia) := hc _ _ xi.2.2.1
  have a3 : w.cell? ⟨rb, off + i * 4 + 3, none⟩ = some (.int .u64 ic) := hc _ _ xi.2.2.2
  have b0 : w.cell? ⟨rb, off + j * 4, none⟩ = some (.slice Aj nj cj) := hc _ _ xj.1
  have b1 : w.cell? ⟨rb, off + j * 4 + 1, none⟩ = some (.float .f64 jx.2) := hc _ _ xj.2.1
  have b2 : w.cell? ⟨rb, off + j * 4 + 2, none⟩ = some (.int .i64 ja) := hc _ _ xj.2.2.1
  have b3 : w.cell? ⟨rb, off + j * 4 + 3, none⟩ = some (.int .u64 jc) := hc _ _ xj.2.2.2
  have p1 : w.cell? ⟨p, 1, none⟩ = some (.slice (some ⟨rb, off, none⟩) es.length cap) := hP.2.1.cell 1
  obtain ⟨hoff, ⟨cs, hbk⟩, hpr⟩ := pile_off hP
  have fz : ∀ o, w.frozen? ⟨rb, o, none⟩ = false := fun o => hbk.frozen o
  have HOFF := Lib.hid hoff
  clear hbk hoff
  have hq0 : (0 : Int) ≤ (i : Int) := by omega
  have hq1 : (i : Int) < (es.length : Int) := by omega
  have hq2 : ((i : Int)).toNat = i := by omega
  have hq3 : (0 : Int) ≤ (j : Int) := by omega
  have hq4 : (j : Int) < (es.length : Int) := by omega
  have hq5 : ((j : Int)).toNat = j := by omega
  clear hc xi xj
  have HP := Lib.hid hP
  by_cases hij : i = j
  · subst hij
    exact swap_same B f p _ nx es i hi w HP.out
  · skip
    have n01 : ¬ i * 4 = j * 4 + 1 := by omega
    have n02 : ¬ i * 4 = j * 4 + 2 := by omega
    have n03 : ¬ i * 4 = j * 4 + 3 := by omega
    have n10 : ¬ i * 4 + 1 = j * 4 := by omega
    have n12 : ¬ i * 4 + 1 = j * 4 + 2 := by omega
    have n13 : ¬ i * 4 + 1 = j * 4 + 3 := by omega
    have n20 : ¬ i * 4 + 2 = j * 4 := by omega
    have n21 : ¬ i * 4 + 2 = j * 4 + 1 := by omega
    have n23 : ¬ i * 4 + 2 = j * 4 + 3 := by omega
    have n30 : ¬ i * 4 + 3 = j * 4 := by omega
    have n31 : ¬ i * 4 + 3 = j * 4 + 1 := by omega
    have n32 : ¬ i * 4 + 3 = j * 4 + 2 := by omega
    go_enter Tryz.func140, Tryz.ntmps140
    go_upto_region 0 with fail
    go_big_region
    go_wp2
    go_end0
    have hoff := HOFF.out
    subst hoff
    rw [Nat.zero_add, Nat.zero_add]
    exact ⟨rfl, (swap_post hi hj HP.out hpr _ _ HEI.out HEJ.out).drew, grown_drew ((grown4 _ _ _ _ _ _ _ _ _ _).trans (grown4 _ _ _ _ _ _ _ _ _ _))⟩
end Go.Proofs.YtefdoineacfbhaaGreatDoor
