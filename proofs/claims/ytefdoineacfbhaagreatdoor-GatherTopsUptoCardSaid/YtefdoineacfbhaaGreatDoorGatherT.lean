/- What gather.Gather computes where the best of each group are kept. -/
import Derived.Test.YtefdoineacfbhaaGreatDoorGatherS
namespace Go.Proofs.YtefdoineacfbhaaGreatDoor
open Go Go.Proofs Go.Shelf Go.RowKit Go.Lib Go.Sort

attribute [local go_sem] run_store_float

section
variable {K V : Type} [DecidableEq K]
theorem addTo_perm (G : List (K × List V)) (k : K) (x : V) : ((addTo G k x).flatMap (·.2)).Perm (G.flatMap (·.2) ++ [x]) := by
  induction G with
  | nil => simp [addTo]
  | cons g G ih =>
    unfold addTo
    split
    · simp only [List.flatMap_cons, List.append_assoc]
      exact List.Perm.append_left _ (List.perm_append_comm)
    · simp only [List.flatMap_cons, List.append_assoc]
      exact List.Perm.append_left _ ih
theorem groupsOf_perm (f : V → K) (xs : List V) : ((groupsOf f xs).flatMap (·.2)).Perm xs := by
  have : ∀ (n : Nat) (xs : List V), xs.length = n → ((groupsOf f xs).flatMap (·.2)).Perm xs := by
    intro n
    induction n with
    | zero =>
      intro xs h
      obtain rfl := List.eq_nil_of_length_eq_zero h
      simp [groupsOf]
    | succ n ih =>
      intro xs h
      obtain ⟨ys, y, rfl⟩ : ∃ ys y, xs = ys ++ [y] := ⟨xs.dropLast, xs.getLast (by intro e; simp [e] at h), (List.dropLast_concat_getLast _).symm⟩
      rw [groupsOf_snoc]
      exact (addTo_perm _ _ _).trans ((ih ys (by simpa using h)).append_right _)
  exact this _ xs rfl
end

theorem bestL_mem {top : Bool} {k : Nat} {vs : List (Value × El)} {x : Value × El} (h : x ∈ bestL top k vs) : x ∈ vs := by
  unfold bestL at h
  obtain ⟨e, he, rfl⟩ := List.mem_map.1 h
  have h1 := (isort_perm _).mem_iff.1 (List.mem_of_mem_take he)
  have h2 : e.1 ∈ (entsFrom 0 vs).map (·.1) := List.mem_map_of_mem h1
  rwa [entsFrom_map] at h2
theorem bestL_length (top : Bool) (k : Nat) (vs : List (Value × El)) : (bestL top k vs).length = min k vs.length := by
  unfold bestL
  rw [List.length_map, List.length_take, isort_length, entsFrom_length]
theorem cellsE_one {vs : List (Value × El)} (h : ∀ x ∈ vs, IsSl x.1) : ∀ u ∈ cellsE vs, u.oneCell' = true := by
  intro u hu
  unfold cellsE at hu
  obtain ⟨x, hx, hu⟩ := List.mem_flatMap.1 hu
  obtain ⟨A, n, c, e⟩ := h x hx
  simp only [List.mem_cons, List.not_mem_nil, or_false] at hu
  rcases hu with rfl | rfl
  · rw [e]; rfl
  · rfl

/-- The best of each group. -/
def TopOut (top : Bool) (k : Nat) (names : List ByteArray) (wo : Bool) (V out : List El) : Prop := out = (groupsE names wo V).flatMap fun g => bestE top k g.2

theorem flat_le (top : Bool) (kk : Nat) (l : List Grp) : (l.flatMap fun g => bestL top kk g.2).length ≤ (l.flatMap (·.2)).length := by
  induction l with
  | nil => simp
  | cons g l ih => simp only [List.flatMap_cons, List.length_append, bestL_length]; omega

set_option maxHeartbeats 8000000 in
set_option maxRecDepth 100000 in
theorem gather_top (op : Agg) (hk : op = .topk ∨ op = .bottomk) (wo : Bool) (A' : Option Addr) (m c' : Nat) (names : List ByteArray) (param kk : Nat) (hw : Whole param kk) (text : ByteArray) (v : Value) (es : List El) (w : World)
    (h : VecV w w.heap.size v es) (hf : FineE es) (hnm : Reads w w.heap.size 1 A' m (names.map .string)) (hm : m ≤ 1048576) (htab : PowTab w) :
    Calls Tryz.prog 11 #[.agg (gathV op wo (.slice A' m c') param text), v] w (GatherRes w es (TopOut (isTop op) kk names wo)) := by
  have hbox := Blk.new w 27 (gathV op wo (.slice A' m c') param text)
  have hb1 : RowKit.Below w.heap.size w (w.alloc (.cells (gathV op wo (.slice A' m c') param text) 27)) := (Below.refl _ _).alloc (Nat.le_refl _) _
  have HVEC := Lib.hid (vector_any v es (w.alloc (.cells (gathV op wo (.slice A' m c') param text) 27)) ((h.below hb1).more (by simp)) hf)
  have HB1 := Lib.hid hb1
  have HBOX := Lib.hid hbox
  have HF := Lib.hid hf
  have HNM := Lib.hid hnm
  have HT := Lib.hid htab
  have h3 : ((opB op).toList == [99, 111, 117, 110, 116, 95, 118, 97, 108, 117, 101, 115]) = false := by rcases hk with rfl | rfl <;> (rw [ByteArray.toList_eq]; rfl)
  obtain ⟨t1, h1⟩ : ∃ t1, ((opB op).toList == [116, 111, 112, 107]) = t1 := ⟨_, rfl⟩
  obtain ⟨t2, h2⟩ : ∃ t2, ((opB op).toList == [98, 111, 116, 116, 111, 109, 107]) = t2 := ⟨_, rfl⟩
  have h12 : (t1 = true) ∨ (t1 = false ∧ t2 = true) := by
    subst h1 h2
    rcases hk with rfl | rfl
    · left; rw [ByteArray.toList_eq]; rfl
    · right; exact ⟨by rw [ByteArray.toList_eq]; rfl, by rw [ByteArray.toList_eq]; rfl⟩
  have hop : op ≠ .values := by rcases hk with rfl | rfl <;> (intro e; cases e)
  have hq : ∀ q, op = .quantile q → param = q := by rcases hk with rfl | rfl <;> (intro q e; cases e)
  have HGR := Lib.hid (fun A n c vs W a1 a2 a3 a4 a5 a6 => grouped_any op wo A' m c' names param text A n c vs W a1 a2 a3 a4 a5 hm a6 hop hq)
  have HCH := Lib.hid (fun A n c vs W a1 a2 a3 => chosen_any op wo (.slice A' m c') param kk hw text A n c vs W ⟨_, _, _, rfl⟩ a1 a2 a3)
  obtain ⟨tp, htp⟩ : ∃ tp, isTop op = tp := ⟨_, rfl⟩
  rw [htp] at HCH ⊢
  clear h hf hnm htab hbox hb1 hq hop hk htp
  unfold gathV at HVEC HB1 HBOX HGR HCH ⊢
  generalize opB op = ob at h1 h2 h3 HVEC HB1 HBOX HGR HCH ⊢
  cases hv : vectorP es with
  | none =>
    rw [hv] at HVEC
    have HV := Lib.hid hv
    clear hv
    go_enter Tryz.func11, Tryz.ntmps11
    go_wp2_with (go_at_call 15; refine (Hid.out HVEC).mono ?_; rintro e w2 ⟨hb2, rfl⟩)
    go_ret2
    exact GatherRes.bad HV.out rfl (HB1.out.trans (hb2.mono (by simp)))
  | some V =>
    rw [hv] at HVEC
    have HV := Lib.hid hv
    clear hv
    rcases h12 with rfl | ⟨rfl, rfl⟩
    all_goals
      go_enter Tryz.func11, Tryz.ntmps11
      go_upto_region 10 with (go_at_call 15; refine (Hid.out HVEC).mono ?_; rintro e w3 ⟨hb2, v2, rfl, hov2⟩
                              have HB3 := Lib.hid (HB1.out.trans (hb2.mono (by simp)))
                              have hbox2 : Blk w3 w.heap.size 27 #[.string ob, .bool wo, .slice A' m c', .float .f64 param, .string text] := HBOX.out.below hb2 (by simp)
                              have d0 : w3.cell? ⟨w.heap.size, 0, none⟩ = some (.string ob) := hbox2.cell 0
                              have d1 : w3.cell? ⟨w.heap.size, 1, none⟩ = some (.bool wo) := hbox2.cell 1
                              have d2 : w3.cell? ⟨w.heap.size, 2, none⟩ = some (.slice A' m c') := hbox2.cell 2
                              have d3 : w3.cell? ⟨w.heap.size, 3, none⟩ = some (.float .f64 param) := hbox2.cell 3
                              have d4 : w3.cell? ⟨w.heap.size, 4, none⟩ = some (.string text) := hbox2.cell 4
                              have HOV3 := Lib.hid hov2
                              have HBOX3 := Lib.hid hbox2
                              clear hb2 hov2 hbox2)
      obtain ⟨vs, hvm, hvo, hvl, hva⟩ := HOV3.out
      obtain ⟨A2, c2, rfl⟩ := own_form hvo
      have hVe : V = isort ltE es := by
        have := HV.out
        unfold vectorP at this
        split at this
        · split at this
          · cases this
          · injection this with this; exact this.symm
        · cases this
      have hfv : ∀ x ∈ vs, FineL x.2.1 := fun x hx => by
        refine HF.out.2 x.2 ?_
        have : x.2 ∈ V := by rw [← hvm]; exact List.mem_map_of_mem hx
        rw [hVe] at this
        exact (isort_perm es).mem_iff.1 this
      have hvn : vs.length ≤ 1048576 := by
        have h1 := congrArg List.length hvm
        rw [List.length_map, hVe, isort_length] at h1
        have := HF.out.1
        omega
      have hs3 := HB3.out.size
      have HGRR := Lib.hid (HGR.out A2 vs.length c2 vs w3 (Reads.of_own hvo) (fun x hx => LabsV.of_own (hvl x hx)) hfv hvn ((HNM.out.below HB3.out).more hs3) (HT.out.below HB3.out))
      have HSLV : Hid (∀ y ∈ vs, IsSl y.1) := fun y hy => by
        obtain ⟨A, c, he⟩ := own_form (hvl y hy)
        exact ⟨_, _, _, he⟩
      have HVL : Hid (∀ x ∈ vs, LabsV w3 w3.heap.size x.1 x.2.1) := fun x hx => LabsV.of_own (hvl x hx)
      have HVS : Hid (vs.map (·.2) = V ∧ (∀ x ∈ vs, FineL x.2.1) ∧ vs.length ≤ 1048576) := ⟨hvm, hfv, hvn⟩
      obtain ⟨G, hG⟩ : ∃ G, groupsOf (fun x : Value × El => keepP x.2.1 names wo) vs = G := ⟨_, rfl⟩
      rw [hG] at HGRR
      have HG := Lib.hid hG
      clear hvm hvo hvl hva hVe hfv hG hvn
      go_wp2_with (go_at_call 33; refine (Hid.out HGRR).mono ?_; rintro e w4 ⟨gv, ms, rfl, hgm, hms, hb4⟩
                   obtain ⟨Ag, cg, rfl⟩ := own_form hgm.1
                   have HGM := Lib.hid hgm
                   have HMS := Lib.hid hms
                   have HB34 := Lib.hid hb4
                   have HB4 := Lib.hid (HB3.out.trans (hb4.mono hs3))
                   clear hgm hms hb4)
      clear d0 d1 d2 d3 d4
      have hs4 := HB4.out.size
      obtain ⟨i0, hi, hz0, hz1, hz2⟩ := info_parts infoElem
      have HGMEM : Hid (∀ g ∈ G, ∀ y ∈ g.2, y ∈ vs) := fun g hg y hy => by
        rw [← HG.out] at hg
        have h6 := ((groupsOk (fun x : Value × El => keepP x.2.1 names wo) vs).2.1 _ hg).1
        rw [h6] at hy
        exact (List.mem_filter.1 hy).1
      have HLEN : Hid (∀ k, ((G.take k).flatMap fun g => bestL tp kk g.2).length ≤ 1048576) := fun k => by
        have e1 := flat_le tp kk (G.take k)
        have e2 : ((G.take k).flatMap (·.2)).length ≤ (G.flatMap (·.2)).length := by
          have : G.flatMap (·.2) = (G.take k).flatMap (·.2) ++ (G.drop k).flatMap (·.2) := by rw [← List.flatMap_append, List.take_append_drop]
          rw [this, List.length_append]; omega
        have e3 := (groupsOf_perm (fun x : Value × El => keepP x.2.1 names wo) vs).length_eq
        rw [HG.out] at e3
        exact Nat.le_trans e1 (Nat.le_trans e2 (Nat.le_trans (Nat.le_of_eq e3) HVS.out.2.2))
      have hlenG : ms.length ≤ 1048576 := by
        have e1 := congrArg List.length HMS.out
        rw [List.length_map, ← HG.out] at e1
        have e2 := groupsOf_length (fun x : Value × El => keepP x.2.1 names wo) vs
        have e3 := HVS.out.2.2
        omega
      have hbx : w.heap.size < w4.heap.size := by have := (HBOX3.out.below HB34.out HBOX3.out.lt).lt; exact this
      have HBOX4 := Lib.hid (HBOX3.out.below HB34.out HBOX3.out.lt)
      go_loopw [8, 49] (fun ov iv wr => ∃ (k : Nat) (outs : List (Value × El)), k ≤ ms.length ∧ iv = .int .i64 k ∧ Hid (outs = (G.take k).flatMap fun g => bestL tp kk g.2) ∧
          Hid (wr.ownsRow w4.heap.size 43 2 ov outs.length (cellsE outs)) ∧ Hid (RowKit.Below w4.heap.size w4 wr)) (fun _ iv _ => ms.length - (intOf iv).toNat)
      case atStart => exact ⟨0, [], by omega, by go_num, by show _ = _; simp, World.ownsRow_nil _ _ _ _, Below.refl _ _⟩
      case round =>
        obtain ⟨k, outs, hk', rfl, HOL, HOW, HC⟩ := hrel
        obtain ⟨Ao, co, rfl⟩ := own_form HOW.out
        have hwr := HC.out.size
        by_cases hlt : k < ms.length
        · have hgm := HGM.out.below HC.out
          obtain ⟨bg, og, hAg, hbg, hcg⟩ := (Reads.of_own hgm.1).at_ hlt
          cases hAg
          have hat := hgm.2.1 ms[k] (List.getElem_mem _)
          obtain ⟨x, hx⟩ : ∃ x, ms[k] = x := ⟨_, rfl⟩
          have g0 : wr.cell? ⟨bg, og + k, none⟩ = some (.pointer (some ⟨x.1.b, 0, none⟩)) := hcg k _ (by rw [List.getElem?_map, List.getElem?_eq_getElem hlt, hx]; rfl)
          have hGk : G[k]? = some x.2 := by rw [← HMS.out, List.getElem?_map, List.getElem?_eq_getElem hlt, hx]; rfl
          rw [hx] at hat
          have HGK := Lib.hid hGk
          clear hcg hx hGk
          obtain ⟨⟨xb, xlv, xev, xsv, xsb⟩, xk, xel⟩ := x
          obtain ⟨_, hblk, hlab, hele, hsum⟩ := hat
          dsimp only at hblk hlab hele hsum g0 HGK
          obtain ⟨Ae, ce, rfl⟩ := own_form hele
          have r1 : wr.cell? ⟨xb, 1, none⟩ = some (.slice Ae xel.length ce) := hblk.cell 1
          have hxb := hblk.lt
          have hbox : Blk wr w.heap.size 27 #[.string ob, .bool wo, .slice A' m c', .float .f64 param, .string text] := HBOX4.out.below HC.out hbx
          have d0 : wr.cell? ⟨w.heap.size, 0, none⟩ = some (.string ob) := hbox.cell 0
          have d1 : wr.cell? ⟨w.heap.size, 1, none⟩ = some (.bool wo) := hbox.cell 1
          have d2 : wr.cell? ⟨w.heap.size, 2, none⟩ = some (.slice A' m c') := hbox.cell 2
          have d3 : wr.cell? ⟨w.heap.size, 3, none⟩ = some (.float .f64 param) := hbox.cell 3
          have d4 : wr.cell? ⟨w.heap.size, 4, none⟩ = some (.string text) := hbox.cell 4
          have hbw : w.heap.size < wr.heap.size := by omega
          have hgG : (xk, xel) ∈ G := List.mem_of_getElem? HGK.out
          have hxe : ∀ y ∈ xel, y ∈ vs := HGMEM.out _ hgG
          have hxl : xel.length ≤ 1048576 := by
            rw [← HG.out] at hgG
            have h7 := groupsOf_mem_length _ _ _ hgG
            have h8 := HVS.out.2.2
            dsimp only at h7
            omega
          have HCHH := Lib.hid (HCH.out Ae xel.length ce xel wr.drew (Reads.of_own hele) (fun y hy => HSLV.out y (hxe y hy)) hxl)
          have HBL := Lib.hid hblk
          have HBO := Lib.hid hbox
          have hsucc : (G.take (k + 1)).flatMap (fun g => bestL tp kk g.2) = (G.take k).flatMap (fun g => bestL tp kk g.2) ++ bestL tp kk xel := by
            have hkl : k < G.length := by
              rcases Nat.lt_or_ge k G.length with h | h
              · exact h
              · have := HGK.out; rw [List.getElem?_eq_none h] at this; cases this
            rw [List.take_succ_eq_append_getElem hkl, List.flatMap_append]
            have e : G[k] = (xk, xel) := by have := HGK.out; rw [List.getElem?_eq_getElem hkl] at this; injection this
            rw [e]
            simp
          have HSUCC := Lib.hid hsucc
          have hbl2 : ∀ y ∈ bestL tp kk xel, IsSl y.1 := fun y hy => HSLV.out y (hxe y (bestL_mem hy))
          have HBL2 := Lib.hid (cellsE_one hbl2)
          have hl1 : outs.length + (bestL tp kk xel).length ≤ 1048576 := by
            have := HLEN.out (k + 1)
            rw [HSUCC.out, List.length_append] at this
            rw [HOL.out]
            exact this
          clear hblk hlab hele hsum hbox hgG hxe hgm hsucc hbl2
          generalize bestL tp kk xel = bl at *
          go_wp2_with fail
          go_region_held3 (fun W => W.cell? ⟨xb, 1, none⟩ = some (.slice Ae xel.length ce) ∧ W.cell? ⟨w.heap.size, 0, none⟩ = some (.string ob) ∧ W.cell? ⟨w.heap.size, 1, none⟩ = some (.bool wo) ∧ W.cell? ⟨w.heap.size, 2, none⟩ = some (.slice A' m c') ∧
              W.cell? ⟨w.heap.size, 3, none⟩ = some (.float .f64 param) ∧ W.cell? ⟨w.heap.size, 4, none⟩ = some (.string text))
            (first | go_keep | exact ⟨k1, l0, l1, l2, l3, l4⟩ | exact ⟨m1, n0, n1, n2, n3, n4⟩)
            (first
              | (refine step_append_any _ (by rfl) (.tmp 54) (.tmp 60) _ (by rfl) w4.heap.size 43 i0 _ 2 32 Tryz.underlying28 hi hz0 hz1 hz2 (by rfl) (by decide) _ outs.length _ (by rfl) HOW8.out w8.heap.size A8 bl.length c8 (cellsE bl) (by rfl) HRW8.out HBL2.out (by unfold maxLen; omega) (by omega) HBS8.out ?_
                 intro v10 w10 hown10 hg10 hor10
                 have hb10 : Blk w10 xb 78 #[xlv, .slice Ae xel.length ce, xsv] := HBL8.out.grown hg10 (fun e => by have := ElT.same (ElT.of_row HOW8.out e.symm) ⟨_, HBL8.out⟩; cases this)
                 have hx10 : Blk w10 w.heap.size 27 #[.string ob, .bool wo, .slice A' m c', .float .f64 param, .string text] := HBO8.out.grown hg10 (fun e => by have := ElT.same (ElT.of_row HOW8.out e.symm) ⟨_, HBO8.out⟩; cases this)
                 have m1 : w10.cell? ⟨xb, 1, none⟩ = some (.slice Ae xel.length ce) := hb10.cell 1
                 have n0 : w10.cell? ⟨w.heap.size, 0, none⟩ = some (.string ob) := hx10.cell 0
                 have n1 : w10.cell? ⟨w.heap.size, 1, none⟩ = some (.bool wo) := hx10.cell 1
                 have n2 : w10.cell? ⟨w.heap.size, 2, none⟩ = some (.slice A' m c') := hx10.cell 2
                 have n3 : w10.cell? ⟨w.heap.size, 3, none⟩ = some (.float .f64 param) := hx10.cell 3
                 have n4 : w10.cell? ⟨w.heap.size, 4, none⟩ = some (.string text) := hx10.cell 4)
              | (go_at_call 34
                 refine (Hid.out HCHH).mono ?_
                 rintro e w8 ⟨v8, rfl, hown8, hb8⟩
                 obtain ⟨A8, c8, rfl⟩ := own_form hown8
                 have hbl8 : Blk w8 xb 78 #[xlv, .slice Ae xel.length ce, xsv] := HBL.out.drew.below hb8 (by show xb < wr.heap.size; omega)
                 have hbo8 : Blk w8 w.heap.size 27 #[.string ob, .bool wo, .slice A' m c', .float .f64 param, .string text] := HBO.out.drew.below hb8 (by show w.heap.size < wr.heap.size; omega)
                 have k1 : w8.cell? ⟨xb, 1, none⟩ = some (.slice Ae xel.length ce) := hbl8.cell 1
                 have l0 : w8.cell? ⟨w.heap.size, 0, none⟩ = some (.string ob) := hbo8.cell 0
                 have l1 : w8.cell? ⟨w.heap.size, 1, none⟩ = some (.bool wo) := hbo8.cell 1
                 have l2 : w8.cell? ⟨w.heap.size, 2, none⟩ = some (.slice A' m c') := hbo8.cell 2
                 have l3 : w8.cell? ⟨w.heap.size, 3, none⟩ = some (.float .f64 param) := hbo8.cell 3
                 have l4 : w8.cell? ⟨w.heap.size, 4, none⟩ = some (.string text) := hbo8.cell 4
                 have HB8 := Lib.hid hb8
                 have HBL8 := Lib.hid hbl8
                 have HBO8 := Lib.hid hbo8
                 have hs8 : wr.heap.size ≤ w8.heap.size := hb8.size
                 have HOW8 := Lib.hid (own_below (w := wr.drew) HOW.out.drew hb8)
                 have HRW8 := Lib.hid (Reads.of_own hown8)
                 have HBS8 : Hid (w4.heap.size ≤ w8.heap.size) := by show _ ≤ _; omega
                 clear hb8 hown8 hbl8 hbo8))
          go_wp2_with fail
          go_roundw
          case rel =>
            refine ⟨k + 1, outs ++ bl, by omega, by go_num, ?_, ?_, ?_⟩
            · show _ = _; rw [HSUCC.out, HOL.out]
            · rw [cellsE_append, List.length_append]; exact hown10
            · exact (HC.out.drew.trans (HB8.out.mono hwr)).grown hg10 HBS8.out (fun q hq => (row_lt HOW8.out hq).1)
          case measure => simp [intOf]; omega
        · obtain rfl : k = ms.length := by omega
          obtain ⟨oes, hoes⟩ : ∃ oes, outs.map (·.2) = oes := ⟨_, rfl⟩
          have hGl : G.length = ms.length := by rw [← HMS.out, List.length_map]
          have hout : outs = G.flatMap fun g => bestL tp kk g.2 := by have := HOL.out; rwa [← hGl, List.take_length] at this
          have hSO : TopOut tp kk names wo V oes := by
            unfold TopOut
            rw [← hoes, hout, ← HVS.out.1, ← groupsE_of, HG.out, List.map_flatMap, List.flatMap_map]
            congr 1
            funext g
            exact bestE_of tp kk g.2
          have hmem : ∀ x ∈ outs, x ∈ vs := fun x hx => by
            rw [hout] at hx
            obtain ⟨g, hg, hx⟩ := List.mem_flatMap.1 hx
            exact HGMEM.out g hg x (bestL_mem hx)
          have hfine : FineE oes := by
            refine ⟨by rw [← hoes, List.length_map]; have := HLEN.out ms.length; rw [← HOL.out] at this; exact this, fun x hx => ?_⟩
            rw [← hoes] at hx
            obtain ⟨o, ho, rfl⟩ := List.mem_map.1 hx
            exact HVS.out.2.1 o (hmem o ho)
          have hvv : VecV wr wr.heap.size (.slice Ao outs.length co) oes := by
            refine ⟨Ao, outs.length, co, outs, rfl, Reads.of_own HOW.out, hoes, fun x hx => ?_, ?_, ?_⟩
            · exact ((HVL.out x (hmem x hx)).below (HB34.out.trans (HC.out.mono HB34.out.size))).more (by have := HB34.out.size; omega)
            · rcases HOW.out.2 with ⟨h1, h2⟩ | ⟨g, cap, cur, h1, _, _, h3, _⟩
              · injection h1 with _ h4 h5; omega
              · injection h1 with _ h4 h5; omega
            · intro hA
              rcases HOW.out.2 with ⟨h1, h2⟩ | ⟨g, cap, cur, h1, _, _, h3, _⟩
              · injection h1
              · injection h1 with h4; rw [hA] at h4; cases h4
          have HVF := Lib.hid (vector_any (.slice Ao outs.length co) oes wr hvv hfine)
          have HSO := Lib.hid hSO
          have HBW : Hid (RowKit.Below w.heap.size w wr) := HB4.out.trans (HC.out.mono hs4)
          clear hSO hfine hvv hmem hout hGl
          cases hvo : vectorP oes with
          | none =>
            rw [hvo] at HVF
            have HVO := Lib.hid hvo
            clear hvo
            go_wp2_with (go_at_call 15; refine (Hid.out HVF).mono ?_; rintro e w9 ⟨hb9, rfl⟩)
            go_ret2
            refine ⟨HBW.out.trans (hb9.mono HBW.out.size), ?_⟩
            rw [HV.out]
            refine ⟨oes, HSO.out, ?_⟩
            rw [HVO.out]
            rfl
          | some o =>
            rw [hvo] at HVF
            have HVO := Lib.hid hvo
            clear hvo
            go_wp2_with (go_at_call 15; refine (Hid.out HVF).mono ?_; rintro e w9 ⟨hb9, v9, rfl, hov9⟩)
            go_ret2
            refine ⟨HBW.out.trans (hb9.mono HBW.out.size), ?_⟩
            rw [HV.out]
            refine ⟨oes, HSO.out, ?_⟩
            rw [HVO.out]
            exact ⟨v9, rfl, own_vec_mono hov9 HBW.out.size⟩
end Go.Proofs.YtefdoineacfbhaaGreatDoor
