/- The pile in memory; its comparison of two entries. -/
import Derived.Test.YtefdoineacfbhaaGreatDoorWorse
namespace Go.Proofs.YtefdoineacfbhaaGreatDoor
open Go Go.Proofs Go.Shelf Go.RowKit Go.Lib Go.Sort

def cellsP (es : List Ent) : List Value := es.flatMap fun e => [e.1.1, .float .f64 e.1.2.2, .int .i64 e.2.1, .int .u64 e.2.2]
theorem cellsP_append (a b : List Ent) : cellsP (a ++ b) = cellsP a ++ cellsP b := by simp [cellsP]
theorem cellsP_length (es : List Ent) : (cellsP es).length = es.length * 4 := by
  induction es with
  | nil => rfl
  | cons l ls ih => simp only [cellsP, List.flatMap_cons, List.length_append, List.length_cons, List.length_nil] at *; omega
theorem cellsP_get (es : List Ent) (k : Nat) (h : k < es.length) : (cellsP es)[k * 4]? = some es[k].1.1 ∧ (cellsP es)[k * 4 + 1]? = some (.float .f64 es[k].1.2.2) ∧
    (cellsP es)[k * 4 + 2]? = some (.int .i64 es[k].2.1) ∧ (cellsP es)[k * 4 + 3]? = some (.int .u64 es[k].2.2) := by
  induction es generalizing k with
  | nil => simp at h
  | cons l ls ih =>
    cases k with
    | zero => simp [cellsP]
    | succ k =>
      have := ih k (by simpa using h)
      simp only [cellsP, List.flatMap_cons, List.getElem_cons_succ] at *
      rw [show (k + 1) * 4 = k * 4 + 4 from by omega, show k * 4 + 4 + 1 = (k * 4 + 1) + 4 from by omega, show k * 4 + 4 + 2 = (k * 4 + 2) + 4 from by omega, show k * 4 + 4 + 3 = (k * 4 + 3) + 4 from by omega]
      exact this

attribute [local go_sem] run_store_float

/-- The closure that tells the worse, and what it holds. -/
def lessV (f : Nat) : Value := .func (.func 111) #[] #[.pointer (some ⟨f, 0, none⟩)]
def EnvW (w : World) (B : Nat) (op : Agg) (f : Nat) : Prop :=
  ∃ g wo labs param text, g < B ∧ f < B ∧ B ≤ w.heap.size ∧ Blk w g 27 (gathV op wo labs param text) ∧ Blk w f 112 #[.func (.func 72) #[] #[.pointer (some ⟨g, 0, none⟩)]]
theorem EnvW.below {w w' : World} {B : Nat} {op : Agg} {f : Nat} (h : EnvW w B op f) (hb : RowKit.Below B w w') : EnvW w' B op f := by
  obtain ⟨g, wo, labs, param, text, h1, h2, h3, h4, h5⟩ := h
  exact ⟨g, wo, labs, param, text, h1, h2, Nat.le_trans h3 hb.size, h4.below hb h1, h5.below hb h2⟩
theorem EnvW.worse {w : World} {B : Nat} {op : Agg} {f : Nat} (h : EnvW w B op f) (a b : Ent) :
    Calls Tryz.prog 111 #[placeV a, placeV b, .pointer (some ⟨f, 0, none⟩)] w fun e w' => e = .returned (.bool (worseP (isTop op) a b)) ∧ Grows w w' := by
  obtain ⟨g, wo, labs, param, text, h1, h2, h3, h4, h5⟩ := h
  exact worse_any op wo labs param text g f a b w h4 h5

/-- The pile at p: its comparison, its entries, the next number. -/
def IsSl (v : Value) : Prop := ∃ A n c, v = .slice A n c
def PileAt (w : World) (B p f : Nat) (gv : Value) (nx : Nat) (es : List Ent) : Prop :=
  B ≤ p ∧ Blk w p 170 #[lessV f, gv, .int .u64 nx] ∧ w.ownsRow B 172 4 gv es.length (cellsP es) ∧ ∀ e ∈ es, IsSl e.1.1

set_option maxHeartbeats 4000000 in
theorem ahead_any (B : Nat) (op : Agg) (f p : Nat) (gv : Value) (nx : Nat) (es : List Ent) (i j : Nat) (hi : i < es.length) (hj : j < es.length) (w : World)
    (hE : EnvW w B op f) (hP : PileAt w B p f gv nx es) :
    Calls Tryz.prog 157 #[.pointer (some ⟨p, 0, none⟩), .int .i64 i, .int .i64 j] w fun e w' => e = .returned (.bool (aheadP (isTop op) es[i] es[j])) ∧ Grows w w' := by
  obtain ⟨A, cap, rfl⟩ := own_form hP.2.2.1
  obtain ⟨rb, off, rfl, hrb, hc⟩ := (Reads.of_own hP.2.2.1).at_ hi
  have xi := cellsP_get es i hi
  have xj := cellsP_get es j hj
  have si := hP.2.2.2 es[i] (List.getElem_mem _)
  have sj := hP.2.2.2 es[j] (List.getElem_mem _)
  obtain ⟨ei, hei⟩ : ∃ e, es[i] = e := ⟨_, rfl⟩
  obtain ⟨ej, hej⟩ : ∃ e, es[j] = e := ⟨_, rfl⟩
  rw [hei] at xi si ⊢
  rw [hej] at xj sj ⊢
  clear hei hej
  obtain ⟨⟨iv, ix⟩, ia, ic⟩ := ei
  obtain ⟨⟨jv, jx⟩, ja, jc⟩ := ej
  dsimp only at xi xj si sj
  obtain ⟨Ai, ni, ci, rfl⟩ := si
  obtain ⟨Aj, nj, cj, rfl⟩ := sj
  have a0 : w.cell? ⟨rb, off + i * 4, none⟩ = some (.slice Ai ni ci) := hc _ _ xi.1
  have a1 : w.cell? ⟨rb, off + i * 4 + 1, none⟩ = some (.float .f64 ix.2) := hc _ _ xi.2.1
  have a2 : w.cell? ⟨rb, off + i * 4 + 2, none⟩ = some (.int .i64 ia) := hc _ _ xi.2.2.1
  have a3 : w.cell? ⟨rb, off + i * 4 + 3, none⟩ = some (.int .u64 ic) := hc _ _ xi.2.2.2
  have b0 : w.cell? ⟨rb, off + j * 4, none⟩ = some (.slice Aj nj cj) := hc _ _ xj.1
  have b1 : w.cell? ⟨rb, off + j * 4 + 1, none⟩ = some (.float .f64 jx.2) := hc _ _ xj.2.1
  have b2 : w.cell? ⟨rb, off + j * 4 + 2, none⟩ = some (.int .i64 ja) := hc _ _ xj.2.2.1
  have b3 : w.cell? ⟨rb, off + j * 4 + 3, none⟩ = some (.int .u64 jc) := hc _ _ xj.2.2.2
  have p0 : w.cell? ⟨p, 0, none⟩ = some (lessV f) := hP.2.1.cell 0
  have p1 : w.cell? ⟨p, 1, none⟩ = some (.slice (some ⟨rb, off, none⟩) es.length cap) := hP.2.1.cell 1
  have hpl := hP.2.1.lt
  have hpl1 : p < w.heap.size + 1 := by omega
  have hrb1 : rb < w.heap.size + 1 := by omega
  have hq0 : (0 : Int) ≤ (i : Int) := by omega
  have hq1 : (i : Int) < (es.length : Int) := by omega
  have hq2 : ((i : Int)).toNat = i := by omega
  have hq3 : (0 : Int) ≤ (j : Int) := by omega
  have hq4 : (j : Int) < (es.length : Int) := by omega
  have hq5 : ((j : Int)).toNat = j := by omega
  clear hc xi xj
  go_enter Tryz.func157, Tryz.ntmps157
  go_upto_region 1 with fail
  go_cut [7, 8] (fun s7 s8 wx => ∃ b7 b8, s7 = .pointer (some ⟨b7, 0, none⟩) ∧ s8 = .pointer (some ⟨b8, 0, none⟩) ∧
    Hid (Blk wx b7 172 #[.slice Ai ni ci, .float .f64 ix.2, .int .i64 ia, .int .u64 ic]) ∧ Hid (Blk wx b8 172 #[.slice Aj nj cj, .float .f64 jx.2, .int .i64 ja, .int .u64 jc]) ∧ Hid (Grows w wx))
  case first =>
    go_big_region
    all_goals
      go_wp2_with fail
      go_meet
    case rel => exact ⟨_, _, rfl, rfl, ((Blk.new _ _ _).alloc _).drew, (Blk.new_at _ _ _ _ (by simp)).drew, (((Grows.refl w).alloc _).alloc _).drew⟩
    case rel => exact ⟨_, _, rfl, rfl, (Blk.new_at _ _ _ _ (by simp)).drew, ((Blk.new _ _ _).alloc _).drew, (((Grows.refl w).alloc _).alloc _).drew⟩
  case rest =>
    obtain ⟨b7, b8, rfl, rfl, H7, H8, HG⟩ := hcut
    have hBw := hE.below (RowKit.Below.refl _ _)
    have QS : Hid (∀ W W2, Grows wc W → Grows W W2 → (fun W => W.cell? ⟨p, 0, none⟩ = some (.func (.func 111) #[] #[.pointer (some ⟨f, 0, none⟩)]) ∧
          (W.cell? ⟨b7, 0, none⟩ = some (.slice Ai ni ci) ∧ W.cell? ⟨b7, 1, none⟩ = some (.float .f64 ix.2) ∧ W.cell? ⟨b7, 2, none⟩ = some (.int .i64 ia)) ∧
          (W.cell? ⟨b8, 0, none⟩ = some (.slice Aj nj cj) ∧ W.cell? ⟨b8, 1, none⟩ = some (.float .f64 jx.2) ∧ W.cell? ⟨b8, 2, none⟩ = some (.int .i64 ja))) W2) := by
      intro W W2 g1 g2
      have g := (HG.out.trans g1).trans g2
      have g' := g1.trans g2
      exact ⟨(g.cell hpl).trans p0, ⟨(g'.cell H7.out.lt).trans (H7.out.cell 0), (g'.cell H7.out.lt).trans (H7.out.cell 1), (g'.cell H7.out.lt).trans (H7.out.cell 2)⟩,
        ⟨(g'.cell H8.out.lt).trans (H8.out.cell 0), (g'.cell H8.out.lt).trans (H8.out.cell 1), (g'.cell H8.out.lt).trans (H8.out.cell 2)⟩⟩
    have HC : Hid (∀ W, Grows wc W → ∀ x y : Ent, Calls Tryz.prog 111 #[placeV x, placeV y, .pointer (some ⟨f, 0, none⟩)] W fun e w' => e = .returned (.bool (worseP (isTop op) x y)) ∧ Grows W w') :=
      fun W hg x y => (hE.below ((HG.out.trans hg).below.mono (by obtain ⟨_, _, _, _, _, _, _, h, _⟩ := hE; exact h))).worse x y
    obtain ⟨z0, ⟨z1, z2, z3⟩, z4, z5, z6⟩ := QS.out wc wc (Grows.refl _) (Grows.refl _)
    have z7 : wc.cell? ⟨b7, 3, none⟩ = some (.int .u64 ic) := H7.out.cell 3
    have z8 : wc.cell? ⟨b8, 3, none⟩ = some (.int .u64 jc) := H8.out.cell 3
    have HC1 := Lib.hid (HC.out wc.drew ((Grows.refl wc).drew) ((.slice Ai ni ci, ix), ia, ic) ((.slice Aj nj cj, jx), ja, jc))
    have hw7 := H7.out.lt
    have hw8 := H8.out.lt
    clear p0 p1 a0 a1 a2 a3 b0 b1 b2 b3 hBw
    unfold placeV at HC1
    go_upto_region 2 with fail
    cases h1 : worseP (isTop op) ((.slice Ai ni ci, ix), ia, ic) ((.slice Aj nj cj, jx), ja, jc) with
    | true =>
      rw [h1] at HC1
      go_region_held3 (fun W => W.cell? ⟨p, 0, none⟩ = some (.func (.func 111) #[] #[.pointer (some ⟨f, 0, none⟩)]) ∧
          (W.cell? ⟨b7, 0, none⟩ = some (.slice Ai ni ci) ∧ W.cell? ⟨b7, 1, none⟩ = some (.float .f64 ix.2) ∧ W.cell? ⟨b7, 2, none⟩ = some (.int .i64 ia)) ∧
          (W.cell? ⟨b8, 0, none⟩ = some (.slice Aj nj cj) ∧ W.cell? ⟨b8, 1, none⟩ = some (.float .f64 jx.2) ∧ W.cell? ⟨b8, 2, none⟩ = some (.int .i64 ja)))
        (first | go_keep | exact w2k)
        (first
          | (go_at_call 111
             refine (Hid.out HC1).mono ?_
             rintro e w2 ⟨rfl, w2g⟩
             have w2k := QS.out wc.drew w2 ((Grows.refl wc).drew) w2g
             have w2l := w2g.below.size))
      go_wp2_with fail
      go_ret
      exact ⟨by simp [aheadP, lexLt, h1], HG.out.trans ((Grows.refl wc).drew.trans w2g)⟩
    | false =>
      rw [h1] at HC1
      go_region_held3 (fun W => W.cell? ⟨p, 0, none⟩ = some (.func (.func 111) #[] #[.pointer (some ⟨f, 0, none⟩)]) ∧
          (W.cell? ⟨b7, 0, none⟩ = some (.slice Ai ni ci) ∧ W.cell? ⟨b7, 1, none⟩ = some (.float .f64 ix.2) ∧ W.cell? ⟨b7, 2, none⟩ = some (.int .i64 ia)) ∧
          (W.cell? ⟨b8, 0, none⟩ = some (.slice Aj nj cj) ∧ W.cell? ⟨b8, 1, none⟩ = some (.float .f64 jx.2) ∧ W.cell? ⟨b8, 2, none⟩ = some (.int .i64 ja)))
        (first | go_keep | exact w2k)
        (first
          | (go_at_call 111
             refine (Hid.out HC1).mono ?_
             rintro e w2 ⟨rfl, w2g⟩
             have w2k := QS.out wc.drew w2 ((Grows.refl wc).drew) w2g
             have w2l := w2g.below.size))
      have GW2 : Hid (Grows wc w2.drew) := ((Grows.refl wc).drew.trans w2g).drew
      have HC2 := Lib.hid (HC.out w2.drew GW2.out ((.slice Aj nj cj, jx), ja, jc) ((.slice Ai ni ci, ix), ia, ic))
      unfold placeV at HC2
      obtain ⟨v0, ⟨v1, v2, v3⟩, v4, v5, v6⟩ := w2k
      have v7 : w2.cell? ⟨b7, 3, none⟩ = some (.int .u64 ic) := (w2g.cell hw7).trans z7
      have v8 : w2.cell? ⟨b8, 3, none⟩ = some (.int .u64 jc) := (w2g.cell hw8).trans z8
      clear z0 z1 z2 z3 z4 z5 z6 z7 z8 w2g
      go_upto_region 4 with fail
      cases h2 : worseP (isTop op) ((.slice Aj nj cj, jx), ja, jc) ((.slice Ai ni ci, ix), ia, ic) with
      | true =>
        rw [h2] at HC2
        go_region_held3 (fun W => W.cell? ⟨p, 0, none⟩ = some (.func (.func 111) #[] #[.pointer (some ⟨f, 0, none⟩)]) ∧
            (W.cell? ⟨b7, 0, none⟩ = some (.slice Ai ni ci) ∧ W.cell? ⟨b7, 1, none⟩ = some (.float .f64 ix.2) ∧ W.cell? ⟨b7, 2, none⟩ = some (.int .i64 ia)) ∧
            (W.cell? ⟨b8, 0, none⟩ = some (.slice Aj nj cj) ∧ W.cell? ⟨b8, 1, none⟩ = some (.float .f64 jx.2) ∧ W.cell? ⟨b8, 2, none⟩ = some (.int .i64 ja)))
          (first | go_keep | exact w3k)
          (first
            | (go_at_call 111
               refine (Hid.out HC2).mono ?_
               rintro e w3 ⟨rfl, w3g⟩
               have w3k := QS.out w2.drew w3 GW2.out w3g
               have w3l := w3g.below.size))
        go_wp2_with fail
        go_ret
        exact ⟨by simp [aheadP, lexLt, h1, h2], HG.out.trans (GW2.out.trans w3g)⟩
      | false =>
        rw [h2] at HC2
        go_region_held3 (fun W => W.cell? ⟨p, 0, none⟩ = some (.func (.func 111) #[] #[.pointer (some ⟨f, 0, none⟩)]) ∧
            (W.cell? ⟨b7, 0, none⟩ = some (.slice Ai ni ci) ∧ W.cell? ⟨b7, 1, none⟩ = some (.float .f64 ix.2) ∧ W.cell? ⟨b7, 2, none⟩ = some (.int .i64 ia)) ∧
            (W.cell? ⟨b8, 0, none⟩ = some (.slice Aj nj cj) ∧ W.cell? ⟨b8, 1, none⟩ = some (.float .f64 jx.2) ∧ W.cell? ⟨b8, 2, none⟩ = some (.int .i64 ja)))
          (first | go_keep | exact w3k)
          (first
            | (go_at_call 111
               refine (Hid.out HC2).mono ?_
               rintro e w3 ⟨rfl, w3g⟩
               have w3k := QS.out w2.drew w3 GW2.out w3g
               have w3l := w3g.below.size))
        have u7 : w3.cell? ⟨b7, 3, none⟩ = some (.int .u64 ic) := (w3g.cell (show b7 < w2.heap.size by have : wc.heap.size ≤ w2.heap.size := w2l; omega)).trans v7
        have u8 : w3.cell? ⟨b8, 3, none⟩ = some (.int .u64 jc) := (w3g.cell (show b8 < w2.heap.size by have : wc.heap.size ≤ w2.heap.size := w2l; omega)).trans v8
        go_wp2_with fail
        go_ret
        exact ⟨by simp [aheadP, lexLt, h1, h2], HG.out.trans (GW2.out.trans w3g)⟩
end Go.Proofs.YtefdoineacfbhaaGreatDoor
