/- The pile: Pop. -/
import Derived.Test.YtefdoineacfbhaaGreatDoorPush
namespace Go.Proofs.YtefdoineacfbhaaGreatDoor
open Go Go.Proofs Go.Shelf Go.RowKit Go.Lib Go.Sort

attribute [local go_sem] run_store_float

/-- The last place cleared and taken away. -/
theorem pile_popped {w : World} {B f p nx rb cap m : Nat} {es : List Ent} (hP : PileAt w B p f (.slice (some ⟨rb, 0, none⟩) (m + 1) cap) nx es) (hl : es.length = m + 1) (hpr : ¬ p = rb) :
    PileAt (((((w.setCell ⟨rb, m * 4, none⟩ (.slice none 0 0)).setCell ⟨rb, m * 4 + 1, none⟩ (.float .f64 0)).setCell ⟨rb, m * 4 + 2, none⟩ (.int .i64 0)).setCell ⟨rb, m * 4 + 3, none⟩ (.int .u64 0)).setCell
      ⟨p, 1, none⟩ (.slice (some ⟨rb, 0, none⟩) m cap)) B p f (.slice (some ⟨rb, 0, none⟩) m cap) nx (es.take m) := by
  rw [← hl] at hP
  have h1 := own_setEnt hP.2.2.1 (i := m) (by omega) ((.slice none 0 0, ([], 0)), 0, 0)
  have h2 := own_shrink h1 (m := m) (by omega)
  have hb := (far4 hP.2.1 hpr (m * 4) (m * 4 + 1) (m * 4 + 2) (m * 4 + 3) (.slice none 0 0) (.float .f64 0) (.int .i64 0) (.int .u64 0)).set_ 1 (.slice (some ⟨rb, 0, none⟩) m cap)
  have e1 : (cellsP (es.set m ((.slice none 0 0, ([], 0)), 0, 0))).take (m * 4) = cellsP (es.take m) := by
    have hc : (es.set m ((Value.slice none 0 0, ([], 0)), 0, 0)) = es.take m ++ (es.set m ((.slice none 0 0, ([], 0)), 0, 0)).drop m := by
      have := (List.take_append_drop m (es.set m ((Value.slice none 0 0, ([], 0)), 0, 0))).symm
      rw [List.take_set_of_le (Nat.le_refl _)] at this
      exact this
    rw [hc, cellsP_append]
    have hle : (cellsP (es.take m)).length = m * 4 := by rw [cellsP_length, List.length_take, Nat.min_eq_left (by omega)]
    exact List.take_left' hle
  rw [e1] at h2
  refine ⟨hP.1, by simpa using hb, ?_, fun e he => hP.2.2.2 e (List.mem_of_mem_take he)⟩
  rw [show (es.take m).length = m from by rw [List.length_take]; omega]
  exact h2.kept (Lib.grownBy_setCell _ p 1 _) (.inr (fun e => by injection e with e; exact hpr e.symm))

theorem row_cells {w : World} {B f p nx rb cap m : Nat} {es : List Ent} (hP : PileAt w B p f (.slice (some ⟨rb, 0, none⟩) (m + 1) cap) nx es) (hl : es.length = m + 1) :
    (∃ u, w.cell? ⟨rb, m * 4, none⟩ = some u) ∧ (∃ u, w.cell? ⟨rb, m * 4 + 1, none⟩ = some u) ∧ (∃ u, w.cell? ⟨rb, m * 4 + 2, none⟩ = some u) ∧ (∃ u, w.cell? ⟨rb, m * 4 + 3, none⟩ = some u) := by
  have key : ∀ j, j < (m + 1) * 4 → ∃ u, w.cell? ⟨rb, j, none⟩ = some u := by
    intro j hj
    have hlen : j < (cellsP es).length := by rw [cellsP_length, hl]; exact hj
    have := hP.2.2.1.cells (g := rb) rfl j _ (List.getElem?_eq_getElem hlen)
    rw [add_mk, Nat.zero_add] at this
    exact ⟨_, this⟩
  exact ⟨key _ (by omega), key _ (by omega), key _ (by omega), key _ (by omega)⟩
theorem row_free {w : World} {B f p nx rb n cap : Nat} {es : List Ent} (hP : PileAt w B p f (.slice (some ⟨rb, 0, none⟩) n cap) nx es) (m : Nat) :
    w.frozen? ⟨rb, m * 4, none⟩ = false ∧ w.frozen? ⟨rb, m * 4 + 1, none⟩ = false ∧ w.frozen? ⟨rb, m * 4 + 2, none⟩ = false ∧ w.frozen? ⟨rb, m * 4 + 3, none⟩ = false := by
  obtain ⟨cs, hb⟩ := (pile_off hP).2.1
  exact ⟨hb.frozen _, hb.frozen _, hb.frozen _, hb.frozen _⟩

theorem PileAt.chg {S : Nat → Prop} {w w' : World} {B p f nx : Nat} {gv : Value} {es : List Ent} (h : PileAt w B p f gv nx es) (hc : Chg S w w') (hp : ¬ S p) (hg : ∀ g, gv.ownBlock = some g → ¬ S g) : PileAt w' B p f gv nx es :=
  ⟨h.1, h.2.1.chg hc hp, own_chg h.2.2.1 hc hg, h.2.2.2⟩

set_option maxHeartbeats 4000000 in
set_option maxRecDepth 100000 in
theorem pop_any (B : Nat) (op : Agg) (f p : Nat) (gv : Value) (nx : Nat) (es : List Ent) (m : Nat) (hl : es.length = m + 1) (hn : es.length ≤ 2097152) (w : World)
    (hE : EnvW w B op f) (hP : PileAt w B p f gv nx es) (hH : HeapF (aheadP (isTop op)) es.length (fE es)) :
    Calls Tryz.prog 114 #[.pointer (some ⟨p, 0, none⟩)] w fun e w' => e = .returned (.tuple #[placeV (fE es 0), .bool true]) ∧
      ∃ gv' es', (fE es 0 :: es').Perm es ∧ HeapF (aheadP (isTop op)) m (fE es') ∧ PileAt w' B p f gv' nx es' ∧ Chg (fun k => k = p ∨ gv.ownBlock = some k) w w' ∧ gv'.ownBlock = gv.ownBlock := by
  obtain ⟨rb, cap, hgv, _, hrb⟩ := hP.2.2.1.form (by omega)
  rw [hl] at hgv
  subst hgv
  have h0 : 0 < es.length := by omega
  have hpr : ¬ p = rb := (pile_off hP).2.2
  have x0 := cellsP_get es 0 h0
  have s0 := hP.2.2.2 es[0] (List.getElem_mem _)
  have hfe : fE es 0 = es[0] := fE_at h0
  obtain ⟨e0, he0⟩ : ∃ e, es[0] = e := ⟨_, rfl⟩
  rw [he0] at x0 s0 hfe
  rw [hfe]
  obtain ⟨⟨iv, ix⟩, ia, ic⟩ := e0
  dsimp only at x0 s0
  obtain ⟨Ai, ni, ci, rfl⟩ := s0
  unfold placeV
  dsimp only
  have hcell : ∀ j u, (cellsP es)[j]? = some u → w.cell? ⟨rb, j, none⟩ = some u := fun j u hu => by
    have := hP.2.2.1.cells (g := rb) rfl j u hu
    rwa [add_mk, Nat.zero_add] at this
  have a0 : w.cell? ⟨rb, 0, none⟩ = some (.slice Ai ni ci) := hcell _ _ x0.1
  have a1 : w.cell? ⟨rb, 1, none⟩ = some (.float .f64 ix.2) := hcell _ _ x0.2.1
  have a2 : w.cell? ⟨rb, 2, none⟩ = some (.int .i64 ia) := hcell _ _ x0.2.2.1
  have p1 : w.cell? ⟨p, 1, none⟩ = some (.slice (some ⟨rb, 0, none⟩) (m + 1) cap) := hP.2.1.cell 1
  have hpl := hP.2.1.lt
  have hpl1 : p < w.heap.size + 1 := by omega
  have hpl2 : p < w.heap.size + 1 + 1 := by omega
  have hrb1 : rb < w.heap.size + 1 := by omega
  have hrb2 : rb < w.heap.size + 1 + 1 := by omega
  have hcap : m + 1 ≤ cap := by
    rcases hP.2.2.1.2 with ⟨hv, _⟩ | ⟨g', cap', cur, hv, _, _, h, _⟩
    · cases hv
    · injection hv with _ h2 h3; omega
  have hm : m + 1 ≤ 2097152 := by omega
  have HPR := Lib.hid hpr
  have HP := Lib.hid hP
  have HE := Lib.hid hE
  have HH := Lib.hid hH
  have HFE := Lib.hid hfe
  have HL := Lib.hid hl
  have HLEN : Hid (∀ W, RowKit.Below w.heap.size w W → Calls Tryz.prog 113 #[.pointer (some ⟨p, 0, none⟩)] W fun e w' => e = .returned (.int .i64 (m + 1 : Nat)) ∧ W = w') :=
    fun W hW => by
      have := len_any B f p _ nx es W (HP.out.below hW)
      rwa [HL.out] at this
  have HB2 : Hid (RowKit.Below w.heap.size w ((w.alloc (.cells #[.slice none 0 0, .float .f64 0, .int .i64 0] 143)).alloc (.cells #[.slice none 0 0, .float .f64 0, .int .i64 0] 143))) :=
    (((RowKit.Below.refl _ _).alloc (Nat.le_refl _) _).alloc (by simp) _)
  clear hP hE hH hfe x0 hcell hl he0 h0 hpr
  go_enter Tryz.func114, Tryz.ntmps114
  go_upto_region 4 with (go_at_call 113; refine (HLEN.out _ HB2.out).mono ?_; rintro e w' ⟨rfl, rfl⟩)
  go_big_region
  obtain ⟨w4, hw4⟩ : ∃ w4, (((w.alloc (.cells #[.slice none 0 0, .float .f64 0, .int .i64 0] 143)).alloc (.cells #[.slice none 0 0, .float .f64 0, .int .i64 0] 143)).alloc (.cells #[.slice Ai ni ci, .float .f64 ix.2, .int .i64 ia] 143)).drew = w4 := ⟨_, rfl⟩
  rw [hw4]
  have hb4 : RowKit.Below w.heap.size w w4 := by rw [← hw4]; exact (HB2.out.alloc (by simp; omega) _).drew
  have hs4 : w4.heap.size = w.heap.size + 3 := by rw [← hw4]; show ((World.alloc _ _).heap).size = _; simp
  have hr4 : Blk w4 w.heap.size 143 #[.slice none 0 0, .float .f64 0, .int .i64 0] := by rw [← hw4]; exact ((Blk.new _ _ _).alloc _).alloc _
  have ht4 : Blk w4 (w.heap.size + 1 + 1) 143 #[.slice Ai ni ci, .float .f64 ix.2, .int .i64 ia] := by rw [← hw4]; exact Blk.new_at _ _ _ _ (by simp)
  clear hw4 a0 a1 a2 p1
  have HB4 := Lib.hid hb4
  have HS4 := Lib.hid hs4
  have HR4 := Lib.hid hr4
  have HT4 := Lib.hid ht4
  have hml : m < es.length := by have := HL.out; omega
  have hel : 0 < es.length := by omega
  have HSW : Hid (∀ x y : Int, x = 0 → y = m → Calls Tryz.prog 140 #[.pointer (some ⟨p, 0, none⟩), .int .i64 x, .int .i64 y] w4
      fun e w' => e = .returned (.tuple #[]) ∧ PileAt w' B p f (.slice (some ⟨rb, 0, none⟩) (m + 1) cap) nx (swapL es 0 m hel hml) ∧ w4.grownBy w' (some rb)) := by
    intro x y hx hy
    subst hx hy
    exact swap_any B f p _ nx es 0 m hel hml w4 (HP.out.below HB4.out)
  clear hb4 hs4 hr4 ht4
  have hpr := HPR.out
  have hrp : ¬ rb = p := fun e => hpr e.symm
  go_wp2_with (go_at_call 140
               refine (HSW.out _ _ rfl rfl).mono ?_
               rintro e w5 ⟨rfl, hp5, hg5⟩
               have HP5 := Lib.hid hp5
               have HG5 := Lib.hid hg5
               have hc5 : w5.cell? ⟨p, 1, none⟩ = some (.slice (some ⟨rb, 0, none⟩) (m + 1) cap) := hp5.2.1.cell 1
               have hz5 : w5.frozen? ⟨p, 1, none⟩ = false := hp5.2.1.frozen 1
               obtain ⟨⟨u0, k0⟩, ⟨u1, k1⟩, ⟨u2, k2⟩, ⟨u3, k3⟩⟩ := row_cells hp5 (by rw [swapL_length]; exact HL.out)
               obtain ⟨f0, f1, f2, f3⟩ := row_free hp5 m
               clear hp5 hg5)
  obtain ⟨w6, hw6⟩ : ∃ w6, (((((w5.setCell ⟨rb, m * 4, none⟩ (.slice none 0 0)).setCell ⟨rb, m * 4 + 1, none⟩ (.float .f64 0)).setCell ⟨rb, m * 4 + 2, none⟩ (.int .i64 0)).setCell ⟨rb, m * 4 + 3, none⟩ (.int .u64 0)).setCell
      ⟨p, 1, none⟩ (.slice (some ⟨rb, 0, none⟩) m cap)) = w6 := ⟨_, rfl⟩
  rw [hw6]
  have hxl : (swapL es 0 m hel hml).length = m + 1 := by rw [swapL_length]; exact HL.out
  have hp6 : PileAt w6 B p f (.slice (some ⟨rb, 0, none⟩) m cap) nx ((swapL es 0 m hel hml).take m) := by rw [← hw6]; exact pile_popped HP5.out hxl HPR.out
  have hc46 : Chg (fun k => k = p ∨ k = rb) w4 w6 := by
    rw [← hw6]
    exact (((((Chg.of_grown HG5.out (fun k e _ => .inr (by injection e with e; exact e.symm))).setCell (.inr (.inr rfl)) _).setCell (.inr (.inr rfl)) _).setCell (.inr (.inr rfl)) _).setCell (.inr (.inr rfl)) _).setCell (.inr (.inl rfl)) _
  clear hw6
  have hE6 : EnvW w6 B op f := (HE.out.below (HB4.out.mono HE.out.size)).below (hc46.below (by have := HE.out.size; have := HS4.out; omega) (fun k hk e => by
    have h1 := HP.out.1
    have h2 := HP.out.base rb rfl
    omega))
  have HDN : Hid (Calls Tryz.prog 141 #[.pointer (some ⟨p, 0, none⟩), .int .i64 0] w6
      fun e w' => e = .returned (.tuple #[]) ∧ ∃ es', es'.Perm ((swapL es 0 m hel hml).take m) ∧ HeapF (aheadP (isTop op)) m (fE es') ∧ PileAt w' B p f (.slice (some ⟨rb, 0, none⟩) m cap) nx es' ∧ w6.grownBy w' (some rb)) := by
    have hlm : ((swapL es 0 m hel hml).take m).length = m := by rw [List.length_take, hxl]; omega
    have hd := down_any B op f p _ nx ((swapL es 0 m hel hml).take m) 0 (by omega) (by rw [hlm]; omega) w6 hE6 hp6 (by
      rw [hlm]
      refine down_start (f := fE es) (by have := HH.out; rwa [HL.out] at this) (fun j h0 hj => ?_)
      rw [fE_at (by omega), List.getElem_take, ← fE_at, fE_swap, sw_o _ _ _ _ (by omega) (by omega)])
    rw [hlm] at hd
    exact hd
  have HP6 := Lib.hid hp6
  have HC46 := Lib.hid hc46
  clear hp6 hc46 hE6
  have hxl := Lib.hid hxl
  go_wp2_with (go_at_call 141
               refine (Hid.out HDN).mono ?_
               rintro e w7 ⟨rfl, es', hpm, hhp, hp7, hg7⟩
               have HPM := Lib.hid hpm
               have HHP := Lib.hid hhp
               have HP7 := Lib.hid hp7
               have HC7 : Hid (Chg (fun k => k = p ∨ k = rb) w4 w7) := HC46.out.trans (Chg.of_grown hg7 (fun k e _ => .inr (by injection e with e; exact e.symm)))
               have HR7 : Hid (Blk w7 w.heap.size 143 #[.slice none 0 0, .float .f64 0, .int .i64 0]) := HR4.out.chg HC7.out (by omega)
               have HT7 : Hid (Blk w7 (w.heap.size + 1 + 1) 143 #[.slice Ai ni ci, .float .f64 ix.2, .int .i64 ia]) := HT4.out.chg HC7.out (by omega)
               have t0 : w7.cell? ⟨w.heap.size + 1 + 1, 0, none⟩ = some (.slice Ai ni ci) := HT7.out.cell 0
               have t1 : w7.cell? ⟨w.heap.size + 1 + 1, 1, none⟩ = some (.float .f64 ix.2) := HT7.out.cell 1
               have t2 : w7.cell? ⟨w.heap.size + 1 + 1, 2, none⟩ = some (.int .i64 ia) := HT7.out.cell 2
               have r0 : w7.cell? ⟨w.heap.size, 0, none⟩ = some (.slice none 0 0) := HR7.out.cell 0
               have r1 : w7.cell? ⟨w.heap.size, 1, none⟩ = some (.float .f64 0) := HR7.out.cell 1
               have r2 : w7.cell? ⟨w.heap.size, 2, none⟩ = some (.int .i64 0) := HR7.out.cell 2
               have z0 : w7.frozen? ⟨w.heap.size, 0, none⟩ = false := HR7.out.frozen 0
               have z1 : w7.frozen? ⟨w.heap.size, 1, none⟩ = false := HR7.out.frozen 1
               have z2 : w7.frozen? ⟨w.heap.size, 2, none⟩ = false := HR7.out.frozen 2
               clear hpm hhp hp7 hg7)
  refine bodyPost_ret (v := .tuple #[.agg #[.slice Ai ni ci, .float .f64 ix.2, .int .i64 ia], .bool true]) (by simp [results, Tryz.results114, go_sem, r0, r1, r2]) rfl ⟨rfl, .slice (some ⟨rb, 0, none⟩) m cap, es', ?_, HHP.out, ?_, ?_, rfl⟩
  · have hp := (HPM.out.cons ((Value.slice Ai ni ci, ix), ia, ic)).trans (List.perm_append_comm (l₁ := [((Value.slice Ai ni ci, ix), ia, ic)]) (l₂ := (swapL es 0 m hel hml).take m))
    have hlast : (swapL es 0 m hel hml).take m ++ [((Value.slice Ai ni ci, ix), ia, ic)] = swapL es 0 m hel hml := by
      have hm2 : m < (swapL es 0 m hel hml).length := by have := hxl.out; omega
      have h2 : (swapL es 0 m hel hml)[m] = ((Value.slice Ai ni ci, ix), ia, ic) := by rw [← fE_at hm2, fE_swap, sw_r, HFE.out]
      rw [← h2, ← List.take_succ_eq_append_getElem hm2]
      exact List.take_of_length_le (by omega)
    rw [hlast] at hp
    exact hp.trans (swapL_perm es 0 m hel hml)
  · refine HP7.out.chg (S := fun k => k = w.heap.size) ((((Chg.refl (fun k => k = w.heap.size) w7).setCell (p := ⟨w.heap.size, 0, none⟩) (.inr rfl) _).setCell (p := ⟨w.heap.size, 1, none⟩) (.inr rfl) _).setCell (p := ⟨w.heap.size, 2, none⟩) (.inr rfl) _) (by omega) (fun g hg => by injection hg with hg; subst hg; show ¬ rb = w.heap.size; omega)
  · have h7 : Chg (fun k => k = p ∨ (Value.slice (some ⟨rb, 0, none⟩) (m + 1) cap).ownBlock = some k) w w7 := (Chg.of_below HB4.out).trans_new HC7.out (fun i _ h => by
      rcases h with h | h
      · exact .inl h
      · exact .inr (by rw [h]; rfl))
    exact ((h7.setCell (p := ⟨w.heap.size, 0, none⟩) (.inl (Nat.le_refl _)) _).setCell (p := ⟨w.heap.size, 1, none⟩) (.inl (Nat.le_refl _)) _).setCell (p := ⟨w.heap.size, 2, none⟩) (.inl (Nat.le_refl _)) _
end Go.Proofs.YtefdoineacfbhaaGreatDoor
