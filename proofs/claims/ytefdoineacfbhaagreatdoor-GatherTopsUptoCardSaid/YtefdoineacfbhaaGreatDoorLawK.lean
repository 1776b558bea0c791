/- The law's own helpers: kept, holds, worse. -/
import Derived.Test.YtefdoineacfbhaaGreatDoorLawW
namespace Go.Proofs.YtefdoineacfbhaaGreatDoor
open Go Go.Proofs Go.Shelf Go.RowKit Go.Lib Go.Sort

attribute [local go_sem] run_store_float

/-- A vector in memory, its elements' values known. -/
def VecAt (w : World) (v : Value) (vs : List (Value × El)) : Prop :=
  ∃ A c, v = .slice A vs.length c ∧ Reads w w.heap.size 2 A vs.length (cellsE vs) ∧ ∀ x ∈ vs, LabsV w w.heap.size x.1 x.2.1
theorem VecAt.below {w w' : World} {v : Value} {vs : List (Value × El)} (h : VecAt w v vs) (hb : RowKit.Below w.heap.size w w') : VecAt w' v vs := by
  obtain ⟨A, c, e, hr, hl⟩ := h
  exact ⟨A, c, e, (hr.below hb).more hb.size, fun x hx => ((hl x hx).below hb).more hb.size⟩
theorem labsV_sl {w : World} {B : Nat} {v : Value} {ls : List Lb} (h : LabsV w B v ls) : IsSl v := by
  obtain ⟨A, n, c, e, _⟩ := h; exact ⟨A, n, c, e⟩

def keptQ (vs : List (Value × El)) (grp : List Lb) (names : List ByteArray) (wo : Bool) : List (Value × El) := vs.filter fun x => decide (keepP x.2.1 names wo = grp)
theorem keptQ_snoc (vs : List (Value × El)) (grp : List Lb) (names : List ByteArray) (wo : Bool) (k : Nat) (h : k < vs.length) :
    keptQ (vs.take (k + 1)) grp names wo = keptQ (vs.take k) grp names wo ++ (if keepP vs[k].2.1 names wo = grp then [vs[k]] else []) := by
  rw [List.take_succ_eq_append_getElem h]
  unfold keptQ
  rw [List.filter_append]
  by_cases hk : keepP vs[k].2.1 names wo = grp <;> simp [hk]

set_option maxHeartbeats 4000000 in
set_option maxRecDepth 100000 in
theorem kept_any (v : Value) (vs : List (Value × El)) (gv : Value) (grp : List Lb) (ob text : ByteArray) (wo : Bool) (A' : Option Addr) (m c' : Nat) (names : List ByteArray) (param : Nat) (w : World)
    (h : VecAt w v vs) (hf : ∀ x ∈ vs, FineL x.2.1) (hn : vs.length ≤ 1048576) (hg : LabsV w w.heap.size gv grp) (hgn : grp.length ≤ 1048576) (hnm : Reads w w.heap.size 1 A' m (names.map .string)) (hm : m ≤ 1048576) :
    Calls Tryz.prog 20 #[v, gv, .agg #[.string ob, .bool wo, .slice A' m c', .float .f64 param, .string text]] w
      (RowRes 43 2 (keptQ vs grp names wo).length (cellsE (keptQ vs grp names wo)) w) := by
  obtain ⟨i0, hi, hz0, hz1, hz2⟩ := info_parts infoElem
  obtain ⟨A, c, rfl, hr, hl⟩ := h
  obtain ⟨Ag, ng, cg, rfl, hrg, _, _⟩ := hg
  have HR := Lib.hid hr
  have HL := Lib.hid hl
  have HF := Lib.hid hf
  have HG := Lib.hid hrg
  have HNM := Lib.hid hnm
  clear hr hl hf hrg hnm
  go_enter Tryz.func20, Tryz.ntmps20
  go_wp2_with fail
  go_loopw [7, 12] (fun ov iv wr => ∃ (k : Nat) (q : Nat), k ≤ vs.length ∧ q ≤ k ∧ iv = .int .i64 k ∧ Hid ((keptQ (vs.take k) grp names wo).length = q) ∧ Hid (wr.ownsRow (w.heap.size + 1) 43 2 ov q (cellsE (keptQ (vs.take k) grp names wo))) ∧
      Blk wr w.heap.size 27 #[.string ob, .bool wo, .slice A' m c', .float .f64 param, .string text] ∧ Hid (RowKit.Below w.heap.size w wr)) (fun _ iv _ => vs.length - (intOf iv).toNat)
  case atStart => exact ⟨0, 0, by omega, by omega, by go_num, rfl, World.ownsRow_nil _ _ _ _, Blk.new _ _ _, (Below.refl _ _).alloc (Nat.le_refl _) _⟩
  case round =>
    obtain ⟨k, q, hk, hqk, rfl, HQ, HO, hbox, HB⟩ := hrel
    obtain ⟨Ao, co, rfl⟩ := own_form HO.out
    by_cases hlt : k < vs.length
    · obtain ⟨b, off, rfl, hbl, hc⟩ := HR.out.at_ hlt
      have hx := cellsE_get vs k hlt
      have hlk := HL.out vs[k] (List.getElem_mem _)
      have hfk := HF.out vs[k] (List.getElem_mem _)
      have hsn := keptQ_snoc vs grp names wo k hlt
      have c0 := (HB.out.cell (p := ⟨b, off + k * 2, none⟩) hbl).trans (hc _ _ hx.1)
      have c1 := (HB.out.cell (p := ⟨b, off + k * 2 + 1, none⟩) hbl).trans (hc _ _ hx.2)
      obtain ⟨x, hxx⟩ : ∃ x, vs[k] = x := ⟨_, rfl⟩
      rw [hxx] at c0 c1 hlk hfk hsn
      obtain ⟨xv, xe⟩ := x
      dsimp only at c0 c1 hlk hfk hsn
      clear hx hc hxx
      obtain ⟨Ax, nx, cx, rfl, hrx, _, _⟩ := hlk
      have hxl : xe.1.length = nx := by have := hrx.1; rw [cellsL_length] at this; omega
      have hnx : nx ≤ 1048576 := by have := hfk.1; omega
      have hwr := HB.out.size
      have hbw := hbox.lt
      have HBX := Lib.hid (hbox.alloc (.cells #[.slice Ax nx cx, .float .f64 xe.2] 43))
      have e1 : wr.cell? ⟨w.heap.size, 1, none⟩ = some (.bool wo) := hbox.cell 1
      have e2 : wr.cell? ⟨w.heap.size, 2, none⟩ = some (.slice A' m c') := hbox.cell 2
      have hb1 := HB.out.alloc hwr (.cells #[.slice Ax nx cx, .float .f64 xe.2] 43)
      have hwr1 : w.heap.size ≤ (wr.alloc (.cells #[.slice Ax nx cx, .float .f64 xe.2] 43)).heap.size := by simp; omega
      have HK := Lib.hid (keep_any Ax nx cx 0 xe.1 A' m c' names wo _ ((hrx.below hb1).more hwr1) ((HNM.out.below hb1).more hwr1) hnx hm)
      have HB1 := Lib.hid hb1
      have HNB := Lib.hid (Blk.new wr 43 #[.slice Ax nx cx, .float .f64 xe.2])
      have HSN := Lib.hid hsn
      have hkl : (keepP xe.1 names wo).length ≤ 1048576 := by
        have := List.length_filter_le (fun l : Lb => staysP names wo l.1) xe.1
        have h2 : (keepP xe.1 names wo).length = (xe.1.filter fun l : Lb => staysP names wo l.1).length := rfl
        omega
      have HO1 := Lib.hid (HO.out.alloc (.cells #[.slice Ax nx cx, .float .f64 xe.2] 43))
      clear hb1 hsn hrx hfk hbox hxl
      by_cases heq : keepP xe.1 names wo = grp
      · have HEQ := Lib.hid heq
        rw [heq] at HK
        clear heq hkl
        go_wp2_with (first
          | (go_at_call 18
             refine (Hid.out HK).mono ?_
             rintro e w2 ⟨ov, rfl, hown2, hb2⟩
             obtain ⟨A2, c2, rfl⟩ := own_form hown2
             have HB2 := Lib.hid (HB1.out.trans (hb2.mono hwr1))
             have hs2 : wr.heap.size + 1 ≤ w2.heap.size := by have := hb2.size; rw [World.size_alloc] at this; omega
             have HS := Lib.hid (sameLabels_any A2 grp.length c2 grp Ag ng cg grp w2 (Reads.of_own hown2) ((HG.out.below HB2.out).more (by omega)) hgn)
             rw [decide_eq_true (rfl : grp = grp)] at HS
             have HNB2 := Lib.hid (HNB.out.below hb2 (by simp))
             have HBX2 := Lib.hid (HBX.out.below hb2 (by simp; omega))
             have HO2 := Lib.hid (own_below HO1.out hb2)
             clear hb2 hown2)
          | (go_at_call 16
             refine (Hid.out HS).mono ?_
             rintro e w3 ⟨rfl, hb3⟩
             have HB3 := Lib.hid (HB2.out.trans (hb3.mono (by omega)))
             have hnb3 : Blk w3 wr.heap.size 43 #[.slice Ax nx cx, .float .f64 xe.2] := HNB2.out.below hb3 (by omega)
             have z0 : w3.cell? ⟨wr.heap.size, 0, none⟩ = some (.slice Ax nx cx) := hnb3.cell 0
             have z1 : w3.cell? ⟨wr.heap.size, 1, none⟩ = some (.float .f64 xe.2) := hnb3.cell 1
             have HBX3 := Lib.hid (HBX2.out.below hb3 (by omega))
             have HO3 := Lib.hid ((own_below HO2.out hb3).alloc (.cells #[.slice Ax nx cx, .float .f64 xe.2] 43))
             have hs3 : w2.heap.size ≤ w3.heap.size := hb3.size
             clear hb3 hnb3)
          | (at_builtin
             refine wpList_append_own _ rfl (.tmp 25) (.tmp 27) _ rfl (w.heap.size + 1) 43 i0 (.agg #[.slice none 0 0, .float .f64 0]) 2 32 Tryz.underlying28 hi hz0 hz1 hz2 rfl (by decide) _ q _ rfl HO3.out ⟨w3.heap.size, 0, none⟩ 1 1 [.slice Ax nx cx, .float .f64 xe.2] rfl rfl (new_cells _ _ _ _ rfl) (by simp [Value.oneCell']) (by unfold maxLen; omega) (by omega) (by rw [World.size_alloc]; omega) ?_
             intro v9 w9 hown9 hg9 _
             have HBX9 : Blk w9 w.heap.size 27 #[.string ob, .bool wo, .slice A' m c', .float .f64 param, .string text] := (HBX3.out.alloc _).grown hg9 (fun e => by have := (row_lt HO3.out e.symm).1; omega)
             have HO9 := Lib.hid hown9
             have HB9 := Lib.hid ((HB3.out.alloc (by omega) _).grown hg9 (by rw [World.size_alloc]; omega) (fun r hr => by have := (row_lt HO3.out hr).1; omega))
             clear hown9 hg9))
        go_roundw
        case rel =>
          refine ⟨k + 1, q + 1, by omega, by omega, by go_num, ?_, ?_, HBX9, HB9.out⟩
          · show _ = _; rw [HSN.out, if_pos HEQ.out, List.length_append, HQ.out]; rfl
          · rw [HSN.out, if_pos HEQ.out, cellsE_append]; exact HO9.out
        case measure => simp [intOf]; omega
      · have HEQ := Lib.hid heq
        have HNE : Hid (decide (keepP xe.1 names wo = grp) = false) := decide_eq_false heq
        clear heq
        generalize keepP xe.1 names wo = kk at HK HEQ HNE HSN hkl
        go_wp2_with (first
          | (go_at_call 18
             refine (Hid.out HK).mono ?_
             rintro e w2 ⟨ov, rfl, hown2, hb2⟩
             obtain ⟨A2, c2, rfl⟩ := own_form hown2
             have HB2 := Lib.hid (HB1.out.trans (hb2.mono hwr1))
             have hs2 : wr.heap.size + 1 ≤ w2.heap.size := by have := hb2.size; rw [World.size_alloc] at this; omega
             have HS := Lib.hid (sameLabels_any A2 kk.length c2 kk Ag ng cg grp w2 (Reads.of_own hown2) ((HG.out.below HB2.out).more (by omega)) hkl)
             rw [HNE.out] at HS
             have HBX2 := Lib.hid (HBX.out.below hb2 (by simp; omega))
             have HO2 := Lib.hid (own_below HO1.out hb2)
             clear hb2 hown2)
          | (go_at_call 16
             refine (Hid.out HS).mono ?_
             rintro e w3 ⟨rfl, hb3⟩
             have HB3 := Lib.hid (HB2.out.trans (hb3.mono (by omega)))
             have HBX3 : Blk w3 w.heap.size 27 #[.string ob, .bool wo, .slice A' m c', .float .f64 param, .string text] := HBX2.out.below hb3 (by omega)
             have HO3 := Lib.hid (own_below HO2.out hb3)
             clear hb3))
        go_roundw
        case rel =>
          refine ⟨k + 1, q, by omega, by omega, by go_num, ?_, ?_, HBX3, HB3.out⟩
          · show _ = _; rw [HSN.out, if_neg HEQ.out, List.append_nil]; exact HQ.out
          · rw [HSN.out, if_neg HEQ.out, List.append_nil]; exact HO3.out
        case measure => simp [intOf]; omega
    · obtain rfl : k = vs.length := by omega
      go_wp2_with fail
      go_ret
      have h1 := HO.out
      have h2 := HQ.out
      rw [List.take_length] at h1 h2
      exact ⟨_, rfl, by rw [h2]; exact own_mono h1 (by omega), HB.out⟩

def holdsP : List (Value × El) → El → Bool
  | [], _ => false
  | y :: r, x => if x.1 = y.2.1 then sameB x.2 y.2.2 else holdsP r x
theorem holdsP_drop (vs : List (Value × El)) (x : El) (k : Nat) (h : k < vs.length) : holdsP (vs.drop k) x = if x.1 = vs[k].2.1 then sameB x.2 vs[k].2.2 else holdsP (vs.drop (k + 1)) x := by
  rw [List.drop_eq_getElem_cons h, holdsP]

set_option maxHeartbeats 4000000 in
set_option maxRecDepth 100000 in
theorem holds_any (v : Value) (vs : List (Value × El)) (xv : Value) (xe : El) (w : World) (h : VecAt w v vs) (hn : vs.length ≤ 1048576) (hx : LabsV w w.heap.size xv xe.1) (hxn : xe.1.length ≤ 1048576) :
    Calls Tryz.prog 21 #[v, .agg #[xv, .float .f64 xe.2]] w fun e w' => e = .returned (.bool (holdsP vs xe)) ∧ RowKit.Below w.heap.size w w' := by
  obtain ⟨A, c, rfl, hr, hl⟩ := h
  obtain ⟨Ag, ng, cg, rfl, hrg, _, _⟩ := hx
  have HR := Lib.hid hr
  have HL := Lib.hid hl
  have HG := Lib.hid hrg
  have hng : ng ≤ 1048576 := by have := hrg.1; rw [cellsL_length] at this; omega
  clear hr hl hrg
  go_enter Tryz.func21, Tryz.ntmps21
  go_wp2_with fail
  go_loopw [9] (fun iv wr => ∃ (k : Nat), k ≤ vs.length ∧ iv = .int .i64 k ∧ Hid (holdsP vs xe = holdsP (vs.drop k) xe) ∧ Blk wr w.heap.size 43 #[.slice Ag ng cg, .float .f64 xe.2] ∧ Hid (RowKit.Below w.heap.size w wr)) (fun iv _ => vs.length - (intOf iv).toNat)
  case atStart => exact ⟨0, by omega, by go_num, rfl, Blk.new _ _ _, (Below.refl _ _).alloc (Nat.le_refl _) _⟩
  case round =>
    obtain ⟨k, hk, rfl, HQ, hbox, HB⟩ := hrel
    by_cases hlt : k < vs.length
    · obtain ⟨b, off, rfl, hbl, hc⟩ := HR.out.at_ hlt
      have hy := cellsE_get vs k hlt
      have hlk := HL.out vs[k] (List.getElem_mem _)
      have hsn := holdsP_drop vs xe k hlt
      have c0 := (HB.out.cell (p := ⟨b, off + k * 2, none⟩) hbl).trans (hc _ _ hy.1)
      have c1 := (HB.out.cell (p := ⟨b, off + k * 2 + 1, none⟩) hbl).trans (hc _ _ hy.2)
      obtain ⟨y, hyy⟩ : ∃ x, vs[k] = x := ⟨_, rfl⟩
      rw [hyy] at c0 c1 hlk hsn
      obtain ⟨yv, ye⟩ := y
      dsimp only at c0 c1 hlk hsn
      clear hy hc hyy
      obtain ⟨Ay, ny, cy, rfl, hry, _, _⟩ := hlk
      have hwr := HB.out.size
      have hbw := hbox.lt
      have e0 : wr.cell? ⟨w.heap.size, 0, none⟩ = some (.slice Ag ng cg) := hbox.cell 0
      have e1 : wr.cell? ⟨w.heap.size, 1, none⟩ = some (.float .f64 xe.2) := hbox.cell 1
      have hb1 := HB.out.alloc hwr (.cells #[.slice Ay ny cy, .float .f64 ye.2] 43)
      have hwr1 : w.heap.size ≤ (wr.alloc (.cells #[.slice Ay ny cy, .float .f64 ye.2] 43)).heap.size := by simp; omega
      have HS := Lib.hid (sameLabels_any Ag ng cg xe.1 Ay ny cy ye.1 _ ((HG.out.below hb1).more hwr1) ((hry.below hb1).more hwr1) hng)
      have HB1 := Lib.hid hb1
      have HBX := Lib.hid (hbox.alloc (.cells #[.slice Ay ny cy, .float .f64 ye.2] 43))
      have HNB := Lib.hid (Blk.new wr 43 #[.slice Ay ny cy, .float .f64 ye.2])
      have HSN := Lib.hid hsn
      clear hb1 hry hsn hbox
      by_cases heq : xe.1 = ye.1
      · rw [decide_eq_true heq] at HS
        have HEQ := Lib.hid heq
        clear heq
        go_wp2_with (first
          | (go_at_call 16
             refine (Hid.out HS).mono ?_
             rintro e w3 ⟨rfl, hb3⟩
             have HB3 := Lib.hid (HB1.out.trans (hb3.mono (by rw [World.size_alloc]; omega)))
             have hbx3 : Blk w3 w.heap.size 43 #[.slice Ag ng cg, .float .f64 xe.2] := HBX.out.below hb3 (by rw [World.size_alloc]; omega)
             have hnb3 : Blk w3 wr.heap.size 43 #[.slice Ay ny cy, .float .f64 ye.2] := HNB.out.below hb3 (by rw [World.size_alloc]; omega)
             have z1 : w3.cell? ⟨w.heap.size, 1, none⟩ = some (.float .f64 xe.2) := hbx3.cell 1
             have z2 : w3.cell? ⟨wr.heap.size, 1, none⟩ = some (.float .f64 ye.2) := hnb3.cell 1
             clear hb3 hbx3 hnb3)
          | (go_at_call 42; refine (same_any _ _ _).mono ?_; rintro e w' ⟨rfl, rfl⟩))
        go_ret
        exact ⟨ret_bool (by rw [HQ.out, HSN.out, if_pos HEQ.out]), HB3.out⟩
      · rw [decide_eq_false heq] at HS
        have HEQ := Lib.hid heq
        clear heq
        go_wp2_with (go_at_call 16
                     refine (Hid.out HS).mono ?_
                     rintro e w3 ⟨rfl, hb3⟩
                     have HB3 := Lib.hid (HB1.out.trans (hb3.mono (by rw [World.size_alloc]; omega)))
                     have HBX3 : Blk w3 w.heap.size 43 #[.slice Ag ng cg, .float .f64 xe.2] := HBX.out.below hb3 (by rw [World.size_alloc]; omega)
                     clear hb3)
        go_roundw
        case rel => exact ⟨k + 1, by omega, by go_num, by show _ = _; rw [HQ.out, HSN.out, if_neg HEQ.out], HBX3, HB3.out⟩
        case measure => simp [intOf]; omega
    · obtain rfl : k = vs.length := by omega
      go_wp2_with fail
      go_ret
      exact ⟨ret_bool (by rw [HQ.out, List.drop_length]; rfl), HB.out⟩

/-- Is x worse than y, which was left out? -/
def worseOne (xb yb : Nat) (most : Bool) : Bool := !nanB yb && (nanB xb || (most && FloatKind.f64.format.order yb xb == some .gt) || (!most && FloatKind.f64.format.order yb xb == some .lt))
def worseQ (vs : List (Value × El)) (yb : Nat) (most : Bool) : Bool := vs.any fun x => worseOne x.2.2 yb most
theorem worseQ_drop (vs : List (Value × El)) (yb : Nat) (most : Bool) (k : Nat) (h : k < vs.length) : worseQ (vs.drop k) yb most = (worseOne vs[k].2.2 yb most || worseQ (vs.drop (k + 1)) yb most) := by
  unfold worseQ
  rw [List.drop_eq_getElem_cons h, List.any_cons]

set_option maxHeartbeats 4000000 in
set_option maxRecDepth 100000 in
theorem worseQ_any (v : Value) (vs : List (Value × El)) (yv : Value) (hyv : IsSl yv) (yb : Nat) (most : Bool) (w : World) (h : VecAt w v vs) (hn : vs.length ≤ 1048576) :
    Calls Tryz.prog 22 #[v, .agg #[yv, .float .f64 yb], .bool most] w fun e w' => e = .returned (.bool (worseQ vs yb most)) ∧ RowKit.Below w.heap.size w w' := by
  obtain ⟨A, c, rfl, hr, hl⟩ := h
  obtain ⟨Ag, ng, cg, rfl⟩ := hyv
  have HR := Lib.hid hr
  have HL := Lib.hid hl
  clear hr hl
  go_enter Tryz.func22, Tryz.ntmps22
  go_wp2_with fail
  go_loopw [11] (fun iv wr => ∃ (k : Nat), k ≤ vs.length ∧ iv = .int .i64 k ∧ Hid (worseQ vs yb most = worseQ (vs.drop k) yb most) ∧ Blk wr w.heap.size 43 #[.slice Ag ng cg, .float .f64 yb] ∧ Hid (RowKit.Below w.heap.size w wr)) (fun iv _ => vs.length - (intOf iv).toNat)
  case atStart => exact ⟨0, by omega, by go_num, rfl, Blk.new _ _ _, (Below.refl _ _).alloc (Nat.le_refl _) _⟩
  case round =>
    obtain ⟨k, hk, rfl, HQ, hbox, HB⟩ := hrel
    by_cases hlt : k < vs.length
    · obtain ⟨b, off, rfl, hbl, hc⟩ := HR.out.at_ hlt
      have hy := cellsE_get vs k hlt
      have hsl := labsV_sl (HL.out vs[k] (List.getElem_mem _))
      have hsn := worseQ_drop vs yb most k hlt
      have c0 := (HB.out.cell (p := ⟨b, off + k * 2, none⟩) hbl).trans (hc _ _ hy.1)
      have c1 := (HB.out.cell (p := ⟨b, off + k * 2 + 1, none⟩) hbl).trans (hc _ _ hy.2)
      obtain ⟨x, hxx⟩ : ∃ x, vs[k] = x := ⟨_, rfl⟩
      rw [hxx] at c0 c1 hsl hsn
      obtain ⟨xv, xe⟩ := x
      dsimp only at c0 c1 hsl hsn
      obtain ⟨Ax, nx, cx, rfl⟩ := hsl
      obtain ⟨xb, hxb⟩ : ∃ xb, xe.2 = xb := ⟨_, rfl⟩
      rw [hxb] at c1 hsn
      have hwr := HB.out.size
      have hbw := hbox.lt
      have e1 : wr.cell? ⟨w.heap.size, 1, none⟩ = some (.float .f64 yb) := hbox.cell 1
      have HB1 := Lib.hid (HB.out.alloc hwr (.cells #[.slice Ax nx cx, .float .f64 xb] 43))
      have HBX := Lib.hid (hbox.alloc (.cells #[.slice Ax nx cx, .float .f64 xb] 43))
      clear hy hc hxx hbox hxb
      have fin : ∀ (r : Bool), worseOne xb yb most = r → Hid (worseQ (vs.drop k) yb most = (r || worseQ (vs.drop (k + 1)) yb most)) := fun r h => by show _ = _; rw [hsn, h]
      have FIN := Lib.hid fin
      clear fin hsn
      cases hny : (FloatKind.f64.format.order yb yb != some .eq) with
      | true =>
        have HSN := FIN.out false (by unfold worseOne nanB; rw [hny]; rfl)
        go_wp2_with fail
        go_roundw
        case rel => exact ⟨k + 1, by omega, by go_num, by show _ = _; rw [HQ.out, HSN.out]; rfl, HBX.out, HB1.out⟩
        case measure => simp [intOf]; omega
      | false =>
        cases hnx : (FloatKind.f64.format.order xb xb != some .eq) with
        | true =>
          have HSN := FIN.out true (by unfold worseOne nanB; rw [hny, hnx]; rfl)
          go_wp2_with fail
          go_ret
          exact ⟨ret_bool (by rw [HQ.out, HSN.out]; rfl), HB1.out⟩
        | false =>
          cases most with
          | true =>
            cases hc : (FloatKind.f64.format.order yb xb == some .gt) with
            | true =>
              have HSN := FIN.out true (by unfold worseOne nanB; rw [hny, hnx, hc]; rfl)
              go_wp2_with fail
              go_ret
              exact ⟨ret_bool (by rw [HQ.out, HSN.out]; rfl), HB1.out⟩
            | false =>
              have HSN := FIN.out false (by unfold worseOne nanB; rw [hny, hnx, hc]; rfl)
              go_wp2_with fail
              go_roundw
              case rel => exact ⟨k + 1, by omega, by go_num, by show _ = _; rw [HQ.out, HSN.out]; rfl, HBX.out, HB1.out⟩
              case measure => simp [intOf]; omega
          | false =>
            cases hc : (FloatKind.f64.format.order yb xb == some .lt) with
            | true =>
              have HSN := FIN.out true (by unfold worseOne nanB; rw [hny, hnx, hc]; rfl)
              go_wp2_with fail
              go_ret
              exact ⟨ret_bool (by rw [HQ.out, HSN.out]; rfl), HB1.out⟩
            | false =>
              have HSN := FIN.out false (by unfold worseOne nanB; rw [hny, hnx, hc]; rfl)
              go_wp2_with fail
              go_roundw
              case rel => exact ⟨k + 1, by omega, by go_num, by show _ = _; rw [HQ.out, HSN.out]; rfl, HBX.out, HB1.out⟩
              case measure => simp [intOf]; omega
    · obtain rfl : k = vs.length := by omega
      go_wp2_with fail
      go_ret
      exact ⟨ret_bool (by rw [HQ.out, List.drop_length]; rfl), HB.out⟩
end Go.Proofs.YtefdoineacfbhaaGreatDoor
