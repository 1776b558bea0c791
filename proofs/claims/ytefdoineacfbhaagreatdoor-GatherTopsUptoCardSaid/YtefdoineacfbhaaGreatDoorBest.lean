/- What pile.Best computes at an element. -/
import Derived.Test.YtefdoineacfbhaaGreatDoorPop
import Derived.Test.YtefdoineacfbhaaGreatDoorBestP
namespace Go.Proofs.YtefdoineacfbhaaGreatDoor
open Go Go.Proofs Go.Shelf Go.RowKit Go.Lib Go.Sort

attribute [local go_sem] run_store_float

theorem heap_root_mem {top : Bool} {n : Nat} {es : List Ent} (h : HeapF (aheadP top) n (fE es)) (hn : es.length = n) : ∀ e ∈ es, aheadP top e (fE es 0) = false := by
  intro e he
  obtain ⟨j, hj, rfl⟩ := List.mem_iff_getElem.1 he
  rw [← fE_at hj]
  exact heap_root (aheadP_swo top) h j (by omega)

/-- The heap is being emptied: D has been taken out, R was left out before. -/
def PopP (top : Bool) (vs : List (Value × El)) (es D R : List Ent) : Prop :=
  (es ++ (D ++ R)).Perm (entsFrom 0 vs) ∧ D.Pairwise (fun a b => aheadP top a b = false) ∧ (∀ e ∈ es, ∀ d ∈ D, aheadP top e d = false) ∧ (∀ e ∈ es ++ D, ∀ r ∈ R, aheadP top e r = false)
theorem popP_start {top : Bool} {vs : List (Value × El)} {kk : Nat} {es R : List Ent} (h : KeptP top vs vs.length kk es R) : PopP top vs es [] R :=
  ⟨by have := h.1; rwa [List.take_length] at this, List.Pairwise.nil, (fun e _ d hd => by cases hd), fun e he r hr => h.2.2 e (by simpa using he) r hr⟩
theorem popP_step {top : Bool} {vs : List (Value × El)} {es es2 D R : List Ent} {e0 : Ent} (h : PopP top vs es D R) (hr : ∀ e ∈ es, aheadP top e e0 = false) (hp : (e0 :: es2).Perm es) : PopP top vs es2 (e0 :: D) R := by
  obtain ⟨h1, h2, h3, h4⟩ := h
  have hm : ∀ e ∈ es2, e ∈ es := fun e he => hp.mem_iff.1 (List.mem_cons_of_mem _ he)
  have h0 : e0 ∈ es := hp.mem_iff.1 List.mem_cons_self
  refine ⟨?_, List.pairwise_cons.2 ⟨fun d hd => h3 e0 h0 d hd, h2⟩, fun e he d hd => ?_, fun e he r hr' => ?_⟩
  · have a1 : (es2 ++ (e0 :: D ++ R)).Perm (e0 :: es2 ++ (D ++ R)) := List.perm_middle
    exact a1.trans ((hp.append_right _).trans h1)
  · rcases List.mem_cons.1 hd with hd | hd
    · subst hd; exact hr e (hm e he)
    · exact h3 e (hm e he) d hd
  · refine h4 e ?_ r hr'
    rcases List.mem_append.1 he with he | he
    · exact List.mem_append_left _ (hm e he)
    · rcases List.mem_cons.1 he with he | he
      · subst he; exact List.mem_append_left _ h0
      · exact List.mem_append_right _ he
theorem popP_end {top : Bool} {vs : List (Value × El)} {kk : Nat} {D R : List Ent} (h : PopP top vs [] D R) (hl : D.length = min kk vs.length) : bestL top kk vs = D.map (·.1) :=
  best_of h.1 h.2.1 (fun e he r hr => h.2.2.2 e (by simpa using he) r hr) hl

theorem set_two {Z : List Value} {a : Nat} (h : a + 2 ≤ Z.length) (u v : Value) : ((Z.set a u).set (a + 1) v).drop a = u :: v :: Z.drop (a + 2) := by
  apply List.ext_getElem?
  intro j
  rw [List.getElem?_drop, List.getElem?_set, List.getElem?_set]
  simp only [List.length_set]
  rcases j with _ | _ | j
  · simp; omega
  · simp; omega
  · rw [if_neg (by omega), if_neg (by omega)]
    simp only [List.getElem?_cons_succ, List.getElem?_drop]
    congr 1
    omega

set_option maxHeartbeats 4000000 in
set_option maxRecDepth 100000 in
theorem best_any (op : Agg) (wo : Bool) (labs : Value) (param : Nat) (text : ByteArray) (g : Nat) (A : Option Addr) (n c : Nat) (vs : List (Value × El)) (k : Int) (w : World)
    (hg : Blk w g 27 (gathV op wo labs param text)) (hr : Reads w w.heap.size 2 A n (cellsE vs)) (hs : ∀ x ∈ vs, IsSl x.1) (hn : n ≤ 1048576) :
    Calls Tryz.prog 71 #[.slice A n c, .int .i64 k, .func (.func 72) #[] #[.pointer (some ⟨g, 0, none⟩)]] w fun e w' =>
      ∃ v, e = .returned v ∧ w'.ownsRow w.heap.size 43 2 v (bestL (isTop op) k.toNat vs).length (cellsE (bestL (isTop op) k.toNat vs)) ∧ RowKit.Below w.heap.size w w' := by
  obtain ⟨i0, hi, hz0, hz1, hz2⟩ := info_parts infoElem
  have hl0 : vs.length = n := by have := hr.1; rw [cellsE_length] at this; omega
  have heq : ∀ W : World, (binOp .eql 112 (.func (.func 72) #[] #[.pointer (some ⟨g, 0, none⟩)]) .nilFunc).run Tryz.prog W = .ok (.bool false) W := fun _ => by kernel_rfl
  by_cases hk : k < 1
  · have HK : Hid (bestL (isTop op) k.toNat vs = []) := by
      show _ = _
      have : k.toNat = 0 := by omega
      rw [this]; rfl
    clear hr hl0
    go_enter Tryz.func71, Tryz.ntmps71
    go_wp2_with fail
    go_ret
    refine ⟨_, rfl, ?_, (Below.refl _ _).alloc (Nat.le_refl _) _⟩
    rw [HK.out]
    exact World.ownsRow_nil _ _ _ _
  · obtain ⟨kk, hkk⟩ : ∃ kk : Nat, k = kk := ⟨k.toNat, by omega⟩
    subst hkk
    have hk1 : 1 ≤ kk := by omega
    rw [show ((kk : Int)).toNat = kk from by omega]
    have HE1 : Hid (EnvW (w.alloc (.cells #[.func (.func 72) #[] #[.pointer (some ⟨g, 0, none⟩)]] 112)) (w.heap.size + 1) op w.heap.size) :=
      ⟨g, wo, labs, param, text, by have := hg.lt; omega, by omega, by simp, hg.alloc _, Blk.new _ _ _⟩
    have HNEW := Lib.hid (new_any (w.heap.size + 1) w.heap.size (w.alloc (.cells #[.func (.func 72) #[] #[.pointer (some ⟨g, 0, none⟩)]] 112)) (by simp))
    have HR := Lib.hid hr
    have HL0 := Lib.hid hl0
    have HS := Lib.hid hs
    have hb1 : RowKit.Below w.heap.size w (w.alloc (.cells #[.func (.func 72) #[] #[.pointer (some ⟨g, 0, none⟩)]] 112)) := (Below.refl _ _).alloc (Nat.le_refl _) _
    have HB1 := Lib.hid hb1
    clear hg hr hl0 hs hb1
    unfold lessV at HNEW
    go_enter Tryz.func71, Tryz.ntmps71
    go_wp2_with (go_at_call 110; refine (Hid.out HNEW).mono ?_; rintro e w2 ⟨p, rfl, hp2, hb2⟩; have HP2 := Lib.hid hp2; have HB2 := Lib.hid hb2; clear hp2 hb2)
    have HB2w : Hid (RowKit.Below w.heap.size w w2) := HB1.out.trans (HB2.out.mono (by simp))
    have HE2 := Lib.hid (HE1.out.below (HB2.out.mono (by simp)))
    clear HE1 HNEW HB1 HB2
    go_loopw [22] (fun iv wr => ∃ (i : Nat) (gv : Value) (es R : List Ent), i ≤ n ∧ iv = .int .i64 i ∧ Hid (KeptP (isTop op) vs i kk es R) ∧ Hid (HeapF (aheadP (isTop op)) es.length (fE es)) ∧
      Hid (PileAt wr (w.heap.size + 1) p w.heap.size gv i es) ∧ Hid (EnvW wr (w.heap.size + 1) op w.heap.size) ∧ Hid (RowKit.Below w.heap.size w wr)) (fun iv _ => n - (intOf iv).toNat)
    case atStart => exact ⟨0, _, [], [], by omega, by go_num, kept_start _ _ _, (fun j _ hj => absurd hj (by simp)), HP2.out, HE2.out, HB2w.out⟩
    case round =>
      clear HP2 HE2 HB2w
      obtain ⟨i, gv, es, R, hin, rfl, HK, HH, HP, HE, HB⟩ := hrel
      have hes : es.length = min i kk := HK.out.2.1
      by_cases hlt : i < n
      · obtain ⟨b, off, rfl, hbl, hc⟩ := HR.out.at_ hlt
        have hv0 : i < vs.length := by have := HL0.out; omega
        have hx := cellsE_get vs i hv0
        have hsx := HS.out vs[i] (List.getElem_mem _)
        have c0 := (HB.out.cell (p := ⟨b, off + i * 2, none⟩) hbl).trans (hc _ _ hx.1)
        have c1 := (HB.out.cell (p := ⟨b, off + i * 2 + 1, none⟩) hbl).trans (hc _ _ hx.2)
        obtain ⟨x, hxx⟩ : ∃ x, vs[i] = x := ⟨_, rfl⟩
        have HXX := Lib.hid hxx
        rw [hxx] at c0 c1 hsx
        obtain ⟨xv, xe⟩ := x
        obtain ⟨Ax, mx, cx, rfl⟩ := hsx
        dsimp only at c0 c1
        clear hx hc hxx
        have hwr := HB.out.size
        have hel : es.length < 2097152 := by omega
        have HPU : Hid (Calls Tryz.prog 112 #[.pointer (some ⟨p, 0, none⟩), .agg #[.slice Ax mx cx, .float .f64 xe.2, .int .i64 i]] (wr.alloc (.cells #[.slice Ax mx cx, .float .f64 xe.2] 43)) fun e w' => e = .returned (.tuple #[]) ∧
            ∃ gv' es', es'.Perm (es ++ [((.slice Ax mx cx, xe), i, i)]) ∧ HeapF (aheadP (isTop op)) (es.length + 1) (fE es') ∧ PileAt w' (w.heap.size + 1) p w.heap.size gv' (i + 1) es' ∧ RowKit.Below (w.heap.size + 1) (wr.alloc (.cells #[.slice Ax mx cx, .float .f64 xe.2] 43)) w') :=
          push_any (w.heap.size + 1) op w.heap.size p gv i es (.slice Ax mx cx, xe) ⟨_, _, _, rfl⟩ i hel (by omega) _ (HE.out.below ((Below.refl _ _).alloc HE.out.size _)) (HP.out.below ((Below.refl _ _).alloc (Nat.le_refl _) _)) HH.out
        have HES := Lib.hid hes
        have hkk2 : kk ≤ n ∨ es.length < kk := by omega
        clear hes
        by_cases hroom : es.length < kk
        · go_wp2_with (first
            | (go_at_call 112; refine (Hid.out HPU).mono ?_; rintro e w3 ⟨rfl, gv3, es3, hpm3, hh3, hp3, hb3⟩
               have HL3 : Hid (Calls Tryz.prog 113 #[.pointer (some ⟨p, 0, none⟩)] w3 fun e w' => e = .returned (.int .i64 (es.length + 1 : Nat)) ∧ w3 = w') := by
                 have h := len_any _ _ p _ _ es3 w3 hp3
                 rwa [hpm3.length_eq, List.length_append, List.length_singleton] at h
               have HPM3 := Lib.hid hpm3
               have HH3 := Lib.hid hh3
               have HP3 := Lib.hid hp3
               have HB3 := Lib.hid hb3
               clear hpm3 hh3 hp3 hb3)
            | (go_at_call 113; refine (Hid.out HL3).mono ?_; rintro e w4 ⟨rfl, rfl⟩))
          go_roundw
          case rel =>
            have hl3 : es3.length = es.length + 1 := by rw [HPM3.out.length_eq]; simp
            refine ⟨i + 1, gv3, es3, R, by omega, by go_num, ?_, by rw [hl3]; exact HH3.out, HP3.out, (HE.out.below ((Below.refl _ _).alloc HE.out.size _)).below HB3.out, (HB.out.alloc hwr _).trans (HB3.out.mono (by omega))⟩
            exact kept_room HK.out hv0 hroom (by rw [HXX.out]; exact HPM3.out)
          case measure => simp [intOf]; omega
        · have hfull : es.length = kk := by have := HES.out; omega
          have HFULL := Lib.hid hfull
          have hgt : (kk : Int) < ((es.length + 1 : Nat) : Int) := by omega
          clear hfull hroom
          go_wp2_with (first
            | (go_at_call 112; refine (Hid.out HPU).mono ?_; rintro e w3 ⟨rfl, gv3, es3, hpm3, hh3, hp3, hb3⟩
               have hl3 : es3.length = es.length + 1 := by rw [hpm3.length_eq]; simp
               have HL3 : Hid (Calls Tryz.prog 113 #[.pointer (some ⟨p, 0, none⟩)] w3 fun e w' => e = .returned (.int .i64 (es.length + 1 : Nat)) ∧ w3 = w') := by
                 have h := len_any _ _ p _ _ es3 w3 hp3
                 rwa [hl3] at h
               have HE3 := Lib.hid ((HE.out.below ((Below.refl _ _).alloc HE.out.size (.cells #[.slice Ax mx cx, .float .f64 xe.2] 43))).below hb3)
               have HPOP := Lib.hid (pop_any (w.heap.size + 1) op w.heap.size p gv3 (i + 1) es3 es.length hl3 (by omega) w3 HE3.out hp3 (by rw [hl3]; exact hh3))
               unfold placeV at HPOP
               have HPM3 := Lib.hid hpm3
               have HH3 := Lib.hid hh3
               have HP3 := Lib.hid hp3
               have HB3 := Lib.hid hb3
               have HL33 := Lib.hid hl3
               clear hpm3 hh3 hp3 hb3 hl3)
            | (go_at_call 113; refine (Hid.out HL3).mono ?_; rintro e w4 ⟨rfl, rfl⟩)
            | (go_at_call 114; refine (Hid.out HPOP).mono ?_; rintro e w5 ⟨rfl, gv5, es5, hpm5, hh5, hp5, hc5, _⟩
               have HPM5 := Lib.hid hpm5
               have HH5 := Lib.hid hh5
               have HP5 := Lib.hid hp5
               have HC5 := Lib.hid hc5
               clear hpm5 hh5 hp5 hc5))
          go_roundw
          case rel =>
            have hl5 : es5.length = es.length := by have h1 := HPM5.out.length_eq; have h2 := HL33.out; rw [List.length_cons] at h1; omega
            have hb5 : RowKit.Below (w.heap.size + 1) w3 w5 := HC5.out.below HE3.out.size (fun q hq e => by
              have h1 := HP3.out.1
              rcases e with e | e
              · omega
              · have := HP3.out.base q e; omega)
            refine ⟨i + 1, gv5, es5, fE es3 0 :: R, by omega, by go_num, ?_, by rw [hl5]; exact HH5.out, HP5.out, HE3.out.below hb5, ((HB.out.alloc hwr _).trans (HB3.out.mono (by omega))).trans (hb5.mono (by omega))⟩
            refine kept_full HK.out hv0 HFULL.out (by rw [HXX.out]; exact HPM3.out) (heap_root_mem HH3.out HL33.out) HPM5.out
          case measure => simp [intOf]; omega
      · obtain rfl : i = n := by omega
        have HK' : Hid (PopP (isTop op) vs es [] R) := popP_start (kk := kk) (by rw [HL0.out]; exact HK.out)
        have hwr := HB.out.size
        have hlen : es.length ≤ 1048576 := by omega
        have HES := Lib.hid hes
        have HL3 : Hid (Calls Tryz.prog 113 #[.pointer (some ⟨p, 0, none⟩)] wr fun e w' => e = .returned (.int .i64 (es.length : Nat)) ∧ wr = w') := len_any _ _ p _ _ es wr HP.out
        clear hes
        obtain ⟨w1, hw1⟩ : ∃ w1, w1 = wr := ⟨_, rfl⟩
        subst hw1
        go_wp2_with (first
          | (go_at_call 113; refine (Hid.out HL3).mono ?_; rintro e w4 ⟨rfl, rfl⟩)
          | (refine wpList_make_full _ rfl _ _ _ rfl w1.heap.size 43 i0 _ 2 Tryz.underlying28 hi hz0 hz1 _ _ _ _ es.length rfl rfl rfl rfl (by rw [hz2]; omega) (by unfold maxLen; omega) (Nat.le_refl _) ?_
             intro w6 hown6 hg6))
        obtain ⟨m, hm⟩ : ∃ m, es.length = m := ⟨_, rfl⟩
        rw [hm] at hown6 hlen ⊢
        have HM := Lib.hid hm
        have hp1 : p < w1.heap.size := HP.out.2.1.lt
        have HG0 : Hid (∀ q, gv.ownBlock = some q → q < w1.heap.size) := fun q hq => (row_lt HP.out.2.2.1 hq).2
        have hb16 : RowKit.Below w1.heap.size w1 w6 := (Below.refl _ _).grown hg6 (Nat.le_refl _) (by simp)
        have HP6 := Lib.hid (HP.out.below hb16)
        have HE6 := Lib.hid (HE.out.below (hb16.mono HE.out.size))
        have HB6 := Lib.hid (HB.out.trans (hb16.mono hwr))
        have hbb6 : w1.heap.size < w6.heap.size := (hown6.lt _ rfl).2
        have HO6 := Lib.hid hown6
        clear hm hg6 hb16 hown6 HL3
        go_loopw [11] (fun iv wr => ∃ (j : Nat) (t : Int) (gv2 : Value) (es2 D : List Ent) (Z : List Value), iv = .int .i64 t ∧ t = (j : Int) - 1 ∧ j ≤ m ∧ Hid (PopP (isTop op) vs es2 D R ∧ es2.length = j ∧ D.length + j = m) ∧ Hid (HeapF (aheadP (isTop op)) j (fE es2)) ∧
          Hid (PileAt wr (w.heap.size + 1) p w.heap.size gv2 i es2) ∧ Hid (EnvW wr (w.heap.size + 1) op w.heap.size) ∧ Hid (wr.ownsRow w1.heap.size 43 2 (.slice (some ⟨w1.heap.size, 0, none⟩) m m) m Z) ∧
          Hid (Z.drop (j * 2) = cellsE (D.map (·.1))) ∧ Hid (∀ q, gv2.ownBlock = some q → q < w1.heap.size) ∧ Hid (RowKit.Below w.heap.size w wr) ∧ w1.heap.size < wr.heap.size) (fun iv _ => (intOf iv + 1).toNat)
        case atStart =>
          refine ⟨m, _, gv, es, [], _, rfl, rfl, by omega, ⟨HK'.out, HM.out, by simp⟩, by have := HH.out; rwa [HM.out] at this, HP6.out, HE6.out, HO6.out, ?_, HG0.out, HB6.out, hbb6⟩
          show List.drop _ _ = _
          rw [List.drop_eq_nil_of_le (by have := HO6.out.1; omega)]
          rfl
        case round =>
          clear HP6 HE6 HB6 HO6 hbb6 HH HP HE HB HK HK'
          obtain ⟨j, t, gv2, es2, D, Z, rfl, ht, hjm, HPO, HH, HP, HE, HO, HZ, HG, HB, hbb⟩ := hrel
          rcases j with _ | q
          · have ht' : t = -1 := by omega
            subst ht'
            clear ht
            have hD : Hid (bestL (isTop op) kk vs = D.map (·.1)) := by
              have h1 := HPO.out.1
              have h2 := HPO.out.2.1
              have h3 := HPO.out.2.2
              have he2 : es2 = [] := List.eq_nil_of_length_eq_zero h2
              subst he2
              refine popP_end h1 ?_
              have := HES.out
              have := HM.out
              have := HL0.out
              omega
            go_wp2_with fail
            go_ret
            refine ⟨_, rfl, ?_, HB.out⟩
            rw [hD.out]
            have h3 := HPO.out.2.2
            have hz := HZ.out
            simp only [Nat.zero_mul, List.drop_zero] at hz
            rw [← hz, List.length_map, show D.length = m from by omega]
            exact own_mono HO.out hwr
          · have ht' : t = (q : Int) := by omega
            subst ht'
            clear ht
            have hl2 : es2.length = q + 1 := HPO.out.2.1
            have HPOP := Lib.hid (pop_any (w.heap.size + 1) op w.heap.size p gv2 i es2 q hl2 (by omega) wr HE.out HP.out (by rw [hl2]; exact HH.out))
            have hm0 : fE es2 0 ∈ es2 := by rw [fE_at (by omega)]; exact List.getElem_mem _
            have s0 := HP.out.2.2.2 _ hm0
            have HRT := Lib.hid (heap_root_mem HH.out hl2)
            unfold placeV at HPOP
            obtain ⟨e0, he0⟩ : ∃ e0, fE es2 0 = e0 := ⟨_, rfl⟩
            rw [he0] at HPOP s0 HRT
            obtain ⟨⟨iv, ix⟩, ia, ic⟩ := e0
            dsimp only at s0
            obtain ⟨Ai, ni, ci, rfl⟩ := s0
            dsimp only at HPOP
            have hbb1 := hbb
            have HL2 := Lib.hid hl2
            clear he0 hm0 hl2
            go_wp2_with (go_at_call 114; refine (Hid.out HPOP).mono ?_; rintro e w7 ⟨rfl, gv7, es7, hpm7, hh7, hp7, hc7, ho7⟩
                         have hO7 : w7.ownsRow w1.heap.size 43 2 (.slice (some ⟨w1.heap.size, 0, none⟩) m m) m Z := own_chg HO.out hc7 (fun g hg e => by
                           injection hg with hg
                           subst hg
                           rcases e with e | e
                           · have e' : w1.heap.size = p := e
                             omega
                           · have := HG.out _ e
                             have e' : w1.heap.size < w1.heap.size := this
                             omega)
                         have hs7 : wr.heap.size ≤ w7.heap.size := hc7.size
                         have hbb7 : w1.heap.size < w7.heap.size := by omega
                         have hzl := hO7.1
                         obtain ⟨u0, y0⟩ : ∃ u, w7.cell? ⟨w1.heap.size, q * 2, none⟩ = some u := ⟨_, (hO7.cellAt (q * 2) (by omega)).trans (List.getElem?_eq_getElem (by omega))⟩
                         obtain ⟨u1, y1⟩ : ∃ u, w7.cell? ⟨w1.heap.size, q * 2 + 1, none⟩ = some u := ⟨_, (hO7.cellAt (q * 2 + 1) (by omega)).trans (List.getElem?_eq_getElem (by omega))⟩
                         have y2 := hO7.frozenAt (q * 2)
                         have y3 := hO7.frozenAt (q * 2 + 1)
                         have HPM7 := Lib.hid hpm7
                         have HH7 := Lib.hid hh7
                         have HP7 := Lib.hid hp7
                         have HC7 := Lib.hid hc7
                         have HO7 := Lib.hid ho7
                         have HOW7 := Lib.hid hO7
                         clear hpm7 hh7 hp7 hc7 ho7 hO7)
            go_roundw
            case rel =>
              have hpg := HP.out.1
              have hc8 : Chg (fun k => k = w1.heap.size) w7 (((w7.setCell ⟨w1.heap.size, q * 2, none⟩ (.slice Ai ni ci)).setCell ⟨w1.heap.size, q * 2 + 1, none⟩ (.float .f64 ix.2)).alloc (.cells #[.slice Ai ni ci, .float .f64 ix.2, .int .i64 ia] 143)) :=
                (((Chg.refl (fun k => k = w1.heap.size) w7).setCell (p := ⟨w1.heap.size, q * 2, none⟩) (.inr rfl) _).setCell (p := ⟨w1.heap.size, q * 2 + 1, none⟩) (.inr rfl) _).alloc _
              have hl7 : es7.length = q := by have h1 := HPM7.out.length_eq; have h2 := HL2.out; rw [List.length_cons] at h1; omega
              have hB1 : w.heap.size + 1 ≤ wr.heap.size := HE.out.size
              have hb7 : RowKit.Below (w.heap.size + 1) wr w7 := HC7.out.below hB1 (fun r hr e => by
                rcases e with e | e
                · omega
                · have := HP.out.base r e; omega)
              have hwl : w.heap.size + 1 ≤ w1.heap.size := by omega
              have hb8 := hc8.below (B := w.heap.size + 1) (by omega) (fun r hr e => by omega)
              refine ⟨q, (q : Int) - 1, gv7, es7, ((.slice Ai ni ci, ix), ia, ic) :: D, (Z.set (q * 2) (.slice Ai ni ci)).set (q * 2 + 1) (.float .f64 ix.2), rfl, rfl, by omega, ⟨popP_step HPO.out.1 HRT.out HPM7.out, hl7, ?_⟩, HH7.out, ?_, (HE.out.below hb7).below hb8, ?_, ?_, ?_, (HB.out.trans (hb7.mono (by omega))).trans (hb8.mono (by omega)), by simp; omega⟩
              · have := HPO.out.2.2; rw [List.length_cons]; omega
              · exact HP7.out.chg hc8 (by omega) (fun r hr e => by rw [HO7.out] at hr; have := HG.out r hr; omega)
              · exact (own_set (own_set HOW7.out (by omega) _) (by omega) _).alloc _
              · have hz := HZ.out
                show List.drop _ _ = _
                rw [set_two (by rw [hzl]; omega), show q * 2 + 2 = (q + 1) * 2 from by omega, hz]
                rfl
              · intro r hr
                rw [HO7.out] at hr
                exact HG.out r hr
            case measure => simp [intOf]
end Go.Proofs.YtefdoineacfbhaaGreatDoor
