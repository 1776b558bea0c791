/- What cmp.Compare, labels.Compare and their like compute. -/
import Derived.Test.YtefdoineacfbhaaGreatDoorValid
import Derived.StillTailTactics
namespace Go.Proofs.YtefdoineacfbhaaGreatDoor
open Go.RowKit Go.Sort

/-- Blocks laid and draws made, nothing else. -/
def Grows (w w' : World) : Prop := ∃ q os, w' = grow (w.drewN q) os
theorem Grows.refl (w : World) : Grows w w := ⟨0, #[], by rw [grow_empty]; rfl⟩
theorem Grows.trans {a b c : World} (h : Grows a b) (k : Grows b c) : Grows a c := by
  obtain ⟨q, os, rfl⟩ := h
  obtain ⟨q', os', rfl⟩ := k
  exact ⟨q + q', os ++ os', by
    show grow (grow ((a.drewN q).drewN q') os) os' = _
    rw [grow_grow, World.drewN_drewN]⟩
theorem Grows.drew {a b : World} (h : Grows a b) : Grows a b.drew := h.trans ⟨1, #[], by rw [grow_empty]; rfl⟩
theorem Grows.alloc {a b : World} (h : Grows a b) (o : Obj) : Grows a (b.alloc o) := h.trans ⟨0, #[o], by rw [alloc_eq_grow]; rfl⟩
theorem Grows.below {a b : World} (h : Grows a b) : Below a.heap.size a b := by
  obtain ⟨q, os, rfl⟩ := h
  exact below_regrown a (a.drawn + q) os
theorem Grows.cell {a b : World} (h : Grows a b) {g o : Nat} (hg : g < a.heap.size) : b.cell? ⟨g, o, none⟩ = a.cell? ⟨g, o, none⟩ := h.below.cell (p := ⟨g, o, none⟩) hg

/-- Compare of two texts. -/
def cmpS (a b : ByteArray) : Int := if ltB a b then -1 else if a = b then 0 else 1
/-- The first that is not 0. -/
def orI (x y : Int) : Int := if x = 0 then y else x
def cmpLb (x y : Lb) : Int := orI (cmpS x.1 y.1) (cmpS x.2 y.2)
/-- The canonical order of label lists. -/
def cmpLs : List Lb → List Lb → Int
  | [], [] => 0
  | [], _ :: _ => -1
  | _ :: _, [] => 1
  | x :: a, y :: b => if cmpLb x y = 0 then cmpLs a b else cmpLb x y

theorem isNaN_any (s : ByteArray) (w : World) : Calls Tryz.prog 118 #[.string s] w fun e w' => e = .returned (.bool false) ∧ w = w' := by
  go_enter Tryz.func118, Tryz.ntmps118
  go_wp2
  go_ret
  exact ⟨rfl, rfl⟩

set_option maxHeartbeats 400000 in
theorem compareS_any (a b : ByteArray) (w : World) : Calls Tryz.prog 78 #[.string a, .string b] w fun e w' => e = .returned (.int .i64 (cmpS a b)) ∧ w' = w := by
  have HT := fun (h : ltB a b = true) => (show cmpS a b = -1 by unfold cmpS; rw [if_pos h])
  have HE := fun (h : ltB a b = false) (h2 : a = b) => (show cmpS a b = 0 by unfold cmpS; rw [if_neg (by rw [h]; decide), if_pos h2])
  have HG := fun (h : ltB a b = false) (h2 : ¬ a = b) => (show cmpS a b = 1 by unfold cmpS; rw [if_neg (by rw [h]; decide), if_neg h2])
  have HHT := Lib.hid HT
  have HHE := Lib.hid HE
  have HHG := Lib.hid HG
  clear HT HE HG
  cases hl : Op.bytesLess a.toList b.toList with
  | true =>
    have HL : Hid (ltB a b = true) := hl
    go_enter Tryz.func78, Tryz.ntmps78
    go_wp2_with (go_at_call 118; refine (isNaN_any _ _).mono ?_; rintro e w' ⟨rfl, rfl⟩)
    go_ret
    exact ⟨ret_int (HHT.out HL.out).symm, rfl⟩
  | false =>
    have HL : Hid (ltB a b = false) := hl
    cases he : (a.toList == b.toList) with
    | true =>
      have HEQ : Hid (a = b) := toList_inj.1 (eq_of_beq he)
      go_enter Tryz.func78, Tryz.ntmps78
      go_wp2_with (go_at_call 118; refine (isNaN_any _ _).mono ?_; rintro e w' ⟨rfl, rfl⟩)
      go_ret
      exact ⟨ret_int (HHE.out HL.out HEQ.out).symm, rfl⟩
    | false =>
      have HEQ : Hid (¬ a = b) := fun h => by rw [h] at he; simp at he
      go_enter Tryz.func78, Tryz.ntmps78
      go_wp2_with (go_at_call 118; refine (isNaN_any _ _).mono ?_; rintro e w' ⟨rfl, rfl⟩)
      go_ret
      exact ⟨ret_int (HHG.out HL.out HEQ.out).symm, rfl⟩

set_option maxHeartbeats 400000 in
/-- cmp.Or of two numbers. -/
theorem or_any (x y : Int) (b : Nat) (w : World) (h0 : w.cell? ⟨b, 0, none⟩ = some (.int .i64 x)) (h1 : w.cell? ⟨b, 1, none⟩ = some (.int .i64 y)) :
    Calls Tryz.prog 77 #[.slice (some ⟨b, 0, none⟩) 2 2] w fun e w' => e = .returned (.int .i64 (orI x y)) ∧ w = w' := by
  have HX : Hid (∀ z : Int, (x ≠ 0 → z = x) → (x = 0 → z = y) → z = orI x y) := fun z a b => by
    unfold orI
    by_cases h : x = 0
    · rw [if_pos h]; exact b h
    · rw [if_neg h]; exact a h
  go_enter Tryz.func77, Tryz.ntmps77
  go_wp2_with fail
  go_loop [8] (fun i => ∃ k : Nat, k ≤ 2 ∧ i = .int .i64 k ∧ Hid ((1 ≤ k → x = 0) ∧ (2 ≤ k → y = 0))) (fun i => 2 - (intOf i).toNat)
  case atStart => exact ⟨0, by omega, by go_num, ⟨fun h => by omega, fun h => by omega⟩⟩
  case round =>
    obtain ⟨k, hk, rfl, HK⟩ := hrel
    obtain rfl | rfl | rfl : k = 0 ∨ k = 1 ∨ k = 2 := by omega
    · cases ex : (x == 0) with
      | true =>
        have hx : Hid (x = 0) := eq_of_beq ex
        have ex' : (x != 0) = false := by rw [bne, ex]; rfl
        go_wp2
        exact ⟨⟨1, by omega, by go_num, ⟨fun _ => hx.out, fun h => by omega⟩⟩, by simp [intOf]⟩
      | false =>
        have hx : Hid (x ≠ 0) := ne_of_beq_false ex
        have ex' : (x != 0) = true := by rw [bne, ex]; rfl
        go_wp2
        go_ret
        exact ⟨ret_int (HX.out _ (fun _ => rfl) (fun h => absurd h hx.out)), rfl⟩
    · cases ey : (y == 0) with
      | true =>
        have hy : Hid (y = 0) := eq_of_beq ey
        have ey' : (y != 0) = false := by rw [bne, ey]; rfl
        go_wp2
        exact ⟨⟨2, by omega, by go_num, ⟨fun _ => HK.out.1 (by omega), fun _ => hy.out⟩⟩, by simp [intOf]⟩
      | false =>
        have hy : Hid (y ≠ 0) := ne_of_beq_false ey
        have ey' : (y != 0) = true := by rw [bne, ey]; rfl
        go_wp2
        go_ret
        exact ⟨ret_int (HX.out _ (fun h => absurd (HK.out.1 (by omega)) h) (fun _ => rfl)), rfl⟩
    · go_wp2
      go_ret
      exact ⟨ret_int (HX.out _ (fun h => absurd (HK.out.1 (by omega)) h) (fun _ => (HK.out.2 (by omega)).symm)), rfl⟩

set_option maxHeartbeats 400000 in
set_option maxRecDepth 100000 in
/-- labels.Compare's own function: of two labels. -/
theorem compareLb_any (x y : Lb) (w : World) : Calls Tryz.prog 76 #[.agg #[.string x.1, .string x.2], .agg #[.string y.1, .string y.2]] w fun e w' => e = .returned (.int .i64 (cmpLb x y)) ∧ Grows w w' := by
  obtain ⟨x1, x2⟩ := x
  obtain ⟨y1, y2⟩ := y
  have HL : Hid (cmpLb (x1, x2) (y1, y2) = orI (cmpS x1 y1) (cmpS x2 y2)) := rfl
  go_enter Tryz.func76, Tryz.ntmps76
  go_wp2_with fail
  have hG : Grows w ((w.alloc (.cells #[.string x1, .string x2] 46)).alloc (.cells #[.string y1, .string y2] 46)) := ((Grows.refl w).alloc _).alloc _
  have d0 : ((w.alloc (.cells #[.string x1, .string x2] 46)).alloc (.cells #[.string y1, .string y2] 46)).cell? ⟨w.heap.size, 0, none⟩ = some (.string x1) := by go_simp
  have d1 : ((w.alloc (.cells #[.string x1, .string x2] 46)).alloc (.cells #[.string y1, .string y2] 46)).cell? ⟨w.heap.size, 1, none⟩ = some (.string x2) := by go_simp
  have d2 : ((w.alloc (.cells #[.string x1, .string x2] 46)).alloc (.cells #[.string y1, .string y2] 46)).cell? ⟨w.heap.size + 1, 0, none⟩ = some (.string y1) := by go_simp
  have d3 : ((w.alloc (.cells #[.string x1, .string x2] 46)).alloc (.cells #[.string y1, .string y2] 46)).cell? ⟨w.heap.size + 1, 1, none⟩ = some (.string y2) := by go_simp
  generalize (w.alloc (.cells #[.string x1, .string x2] 46)).alloc (.cells #[.string y1, .string y2] 46) = W at hG d0 d1 d2 d3 ⊢
  have c0 : ∀ d, ({ W with drawn := d } : World).cell? ⟨w.heap.size, 0, none⟩ = some (.string x1) := fun _ => d0
  have c1 : ∀ d, ({ W with drawn := d } : World).cell? ⟨w.heap.size, 1, none⟩ = some (.string x2) := fun _ => d1
  have c2 : ∀ d, ({ W with drawn := d } : World).cell? ⟨w.heap.size + 1, 0, none⟩ = some (.string y1) := fun _ => d2
  have c3 : ∀ d, ({ W with drawn := d } : World).cell? ⟨w.heap.size + 1, 1, none⟩ = some (.string y2) := fun _ => d3
  have HG := Lib.hid hG
  clear d0 d1 d2 d3 hG
  go_still_tail 10, (by kernel_rfl)
  still_call (compareS_any _ _ _)
  repeat still_step
  still_call (compareS_any _ _ _)
  try refine wpStill_nil ?_
  change wpList _ _ _ _ _ (World.drew W)
  have hGd : Grows w W.drew := HG.out.drew
  generalize W.drew = W2 at hGd ⊢
  clear c0 c1 c2 c3 HG
  generalize cmpS x1 y1 = cx at HL ⊢
  generalize cmpS x2 y2 = cy at HL ⊢
  go_wp2_with (go_at_call 77; refine (or_any cx cy _ _ (by go_simp) (by go_simp)).mono ?_; rintro e w' ⟨rfl, rfl⟩)
  go_ret
  exact ⟨ret_int HL.out.symm, hGd.alloc _⟩
theorem cmpLs_drop (la lb : List Lb) (k : Nat) (h : k < la.length) (h' : k < lb.length) :
    cmpLs (la.drop k) (lb.drop k) = if cmpLb la[k] lb[k] = 0 then cmpLs (la.drop (k + 1)) (lb.drop (k + 1)) else cmpLb la[k] lb[k] := by
  rw [List.drop_eq_getElem_cons h, List.drop_eq_getElem_cons h', cmpLs]
theorem cmpLs_over (la lb : List Lb) (k : Nat) (h : k < la.length) (h' : ¬ k < lb.length) : cmpLs (la.drop k) (lb.drop k) = 1 := by
  rw [List.drop_eq_getElem_cons h, List.drop_eq_nil_of_le (show lb.length ≤ k by omega)]; rfl
theorem cmpLs_short (la lb : List Lb) (h' : la.length < lb.length) : cmpLs (la.drop la.length) (lb.drop la.length) = -1 := by
  rw [List.drop_eq_nil_of_le (Nat.le_refl _), List.drop_eq_getElem_cons h']; rfl
theorem cmpLs_both (la lb : List Lb) (h' : la.length = lb.length) : cmpLs (la.drop la.length) (lb.drop la.length) = 0 := by
  rw [List.drop_eq_nil_of_le (Nat.le_refl _), List.drop_eq_nil_of_le (show lb.length ≤ la.length by omega)]; rfl

set_option maxHeartbeats 800000 in
set_option maxRecDepth 100000 in
theorem compareFunc_any (A A' : Option Addr) (n m c c' : Nat) (la lb : List Lb) (w : World) (h : Reads w w.heap.size 2 A n (cellsL la)) (h' : Reads w w.heap.size 2 A' m (cellsL lb)) (hn : n ≤ 1048576) (hm : m ≤ 1048576) :
    Calls Tryz.prog 75 #[.slice A n c, .slice A' m c', .func (.func 76) #[] #[]] w fun e w' => e = .returned (.int .i64 (cmpLs la lb)) ∧ Grows w w' := by
  have hl : la.length = n := by have := h.1; rw [cellsL_length] at this; omega
  have hl' : lb.length = m := by have := h'.1; rw [cellsL_length] at this; omega
  have HR := Lib.hid h
  have HR' := Lib.hid h'
  have HL := Lib.hid hl
  have HL' := Lib.hid hl'
  clear h h' hl hl'
  go_enter Tryz.func75, Tryz.ntmps75
  go_wp2_with fail
  go_loopw [13] (fun i wr => ∃ k : Nat, k ≤ n ∧ k ≤ m ∧ i = .int .i64 k ∧ Hid (cmpLs la lb = cmpLs (la.drop k) (lb.drop k)) ∧ Grows w wr) (fun i _ => n - (intOf i).toNat)
  case atStart => exact ⟨0, by omega, by omega, by go_num, rfl, Grows.refl _⟩
  case round =>
    obtain ⟨k, hk, hkm, rfl, HV, hg⟩ := hrel
    have HG := Lib.hid hg
    clear hg
    have hszle := HG.out.below.size
    by_cases hlt : k < n
    · have hka : k < la.length := by have := HL.out; omega
      obtain ⟨b, off, rfl, hbl, hc⟩ := HR.out.at_ hlt
      have hx := cellsL_get la k hka
      have c0 := (HG.out.cell hbl).trans (hc _ _ hx.1)
      have c1 := (HG.out.cell hbl).trans (hc _ _ hx.2)
      rw [← Nat.add_assoc] at c1
      obtain ⟨x1, hx1⟩ : ∃ x, la[k].1 = x := ⟨_, rfl⟩
      obtain ⟨x2, hx2⟩ : ∃ x, la[k].2 = x := ⟨_, rfl⟩
      rw [hx1] at c0
      rw [hx2] at c1
      have HX : Hid (la[k] = (x1, x2)) := by show _ = _; rw [← hx1, ← hx2]
      clear hc hx hx1 hx2
      by_cases hltm : k < m
      · have hkb : k < lb.length := by have := HL'.out; omega
        obtain ⟨b', off', rfl, hbl', hc'⟩ := HR'.out.at_ hltm
        have hbw' : b' < wr.heap.size := by omega
        have hy := cellsL_get lb k hkb
        have e0 := (HG.out.cell hbl').trans (hc' _ _ hy.1)
        have e1 := (HG.out.cell hbl').trans (hc' _ _ hy.2)
        rw [← Nat.add_assoc] at e1
        obtain ⟨y1, hy1⟩ : ∃ x, lb[k].1 = x := ⟨_, rfl⟩
        obtain ⟨y2, hy2⟩ : ∃ x, lb[k].2 = x := ⟨_, rfl⟩
        rw [hy1] at e0
        rw [hy2] at e1
        have HY : Hid (lb[k] = (y1, y2)) := by show _ = _; rw [← hy1, ← hy2]
        clear hc' hy hy1 hy2
        have HST : Hid (cmpLs la lb = if cmpLb (x1, x2) (y1, y2) = 0 then cmpLs (la.drop (k + 1)) (lb.drop (k + 1)) else cmpLb (x1, x2) (y1, y2)) := by
          show _ = _
          rw [HV.out, cmpLs_drop la lb k hka hkb, HX.out, HY.out]
        obtain ⟨cv, hcv⟩ : ∃ cv, cmpLb (x1, x2) (y1, y2) = cv := ⟨_, rfl⟩
        have HC : Hid (∀ W, Calls Tryz.prog 76 #[.agg #[.string x1, .string x2], .agg #[.string y1, .string y2]] W fun e w' => e = .returned (.int .i64 cv) ∧ Grows W w') := fun W => by
          have := compareLb_any (x1, x2) (y1, y2) W
          rw [hcv] at this
          exact this
        rw [hcv] at HST
        clear hcv HX HY HV
        cases hz : (cv == 0) with
        | true =>
          have hz' : (cv != 0) = false := by rw [bne, hz]; rfl
          have HZ : Hid (cv = 0) := eq_of_beq hz
          go_wp2_with (go_at_call 76; refine (HC.out _).mono ?_; rintro e w' ⟨rfl, hg2⟩; have HG2 := Lib.hid hg2; clear hg2)
          go_roundw
          case rel => exact ⟨k + 1, by omega, by omega, by go_num, by show _ = _; rw [HST.out, if_pos HZ.out], ((HG.out.alloc _).alloc _).trans HG2.out⟩
          case measure => simp [intOf]; omega
        | false =>
          have hz' : (cv != 0) = true := by rw [bne, hz]; rfl
          have HZ : Hid (cv ≠ 0) := ne_of_beq_false hz
          go_wp2_with (go_at_call 76; refine (HC.out _).mono ?_; rintro e w' ⟨rfl, hg2⟩; have HG2 := Lib.hid hg2; clear hg2)
          go_ret
          exact ⟨ret_int (by rw [HST.out, if_neg HZ.out]), ((HG.out.alloc _).alloc _).trans HG2.out⟩
      · have HF : Hid (cmpLs la lb = 1) := HV.out.trans (cmpLs_over la lb k hka (by have := HL'.out; omega))
        go_wp2_with fail
        go_ret
        exact ⟨ret_int HF.out.symm, HG.out.alloc _⟩
    · by_cases hltm : n < m
      · have HF : Hid (cmpLs la lb = -1) := HV.out.trans (by
          have := HL.out; have := HL'.out
          obtain rfl : k = la.length := by omega
          exact cmpLs_short la lb (by omega))
        go_wp2_with fail
        go_ret
        exact ⟨ret_int HF.out.symm, HG.out⟩
      · have HF : Hid (cmpLs la lb = 0) := HV.out.trans (by
          have := HL.out; have := HL'.out
          obtain rfl : k = la.length := by omega
          exact cmpLs_both la lb (by omega))
        go_wp2_with fail
        go_ret
        exact ⟨ret_int HF.out.symm, HG.out⟩

set_option maxHeartbeats 400000 in
theorem compare_any (A A' : Option Addr) (n m c c' : Nat) (la lb : List Lb) (w : World) (h : Reads w w.heap.size 2 A n (cellsL la)) (h' : Reads w w.heap.size 2 A' m (cellsL lb)) (hn : n ≤ 1048576) (hm : m ≤ 1048576) :
    Calls Tryz.prog 40 #[.slice A n c, .slice A' m c'] w fun e w' => e = .returned (.int .i64 (cmpLs la lb)) ∧ Grows w w' := by
  have HC := Lib.hid (compareFunc_any A A' n m c c' la lb w h h' hn hm)
  clear h h'
  go_enter Tryz.func40, Tryz.ntmps40
  go_wp2_with (go_at_call 75; refine HC.out.mono ?_; rintro e w' ⟨rfl, hg⟩)
  go_ret
  exact ⟨rfl, hg⟩
end Go.Proofs.YtefdoineacfbhaaGreatDoor
