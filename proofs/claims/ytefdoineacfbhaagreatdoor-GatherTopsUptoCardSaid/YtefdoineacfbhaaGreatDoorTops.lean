/- What the law GatherTops computes: true. -/
import Derived.Test.YtefdoineacfbhaaGreatDoorAwake
namespace Go.Proofs.YtefdoineacfbhaaGreatDoor
open Go Go.Proofs Go.Shelf Go.RowKit Go.Lib Go.Sort

attribute [local go_sem] run_store_float

theorem vecAt_own {w : World} {B : Nat} {v : Value} {es : List El} (h : OwnVec w B v es) : ∃ vs : List (Value × El), vs.map (·.2) = es ∧ VecAt w v vs := by
  obtain ⟨vs, hm, ho, hl, _⟩ := h
  obtain ⟨A, c, rfl⟩ := own_form ho
  exact ⟨vs, hm, A, c, rfl, Reads.of_own ho, fun x hx => LabsV.of_own (hl x hx)⟩
/-- A vector of the call's own, from block B on. -/
def OwnAt (w : World) (B : Nat) (v : Value) (vs : List (Value × El)) : Prop :=
  w.ownsRow B 43 2 v vs.length (cellsE vs) ∧ ∀ x ∈ vs, w.ownsRow B 46 2 x.1 x.2.1.length (cellsL x.2.1)
theorem ownAt_own {w : World} {B : Nat} {v : Value} {es : List El} (h : OwnVec w B v es) : ∃ vs : List (Value × El), vs.map (·.2) = es ∧ OwnAt w B v vs := by
  obtain ⟨vs, hm, ho, hl, _⟩ := h
  exact ⟨vs, hm, ho, hl⟩
theorem OwnAt.below {w w' : World} {B : Nat} {v : Value} {vs : List (Value × El)} (h : OwnAt w B v vs) (hb : RowKit.Below w.heap.size w w') : OwnAt w' B v vs :=
  ⟨own_below h.1 hb, fun x hx => own_below (h.2 x hx) hb⟩
theorem OwnAt.chg {S : Nat → Prop} {w w' : World} {B : Nat} {v : Value} {vs : List (Value × El)} (h : OwnAt w B v vs) (hc : Chg S w w') (hS : ∀ q, S q → q < B) : OwnAt w' B v vs :=
  ⟨own_chg h.1 hc (fun g hg e => by have := (row_lt h.1 hg).1; have := hS g e; omega), fun x hx => own_chg (h.2 x hx) hc (fun g hg e => by have := (row_lt (h.2 x hx) hg).1; have := hS g e; omega)⟩
theorem OwnAt.vecAt {w : World} {B : Nat} {v : Value} {vs : List (Value × El)} (h : OwnAt w B v vs) : VecAt w v vs := by
  obtain ⟨A, c, rfl⟩ := own_form h.1
  exact ⟨A, c, rfl, Reads.of_own h.1, fun x hx => LabsV.of_own (h.2 x hx)⟩

theorem vecAt_vec {w : World} {v : Value} {es : List El} (h : VecV w w.heap.size v es) : ∃ vs : List (Value × El), vs.map (·.2) = es ∧ VecAt w v vs := by
  obtain ⟨A, n, c, vs, rfl, hr, hm, hl, _⟩ := h
  have hn : vs.length = n := by have := hr.1; rw [cellsE_length] at this; omega
  subst hn
  exact ⟨vs, hm, A, c, rfl, hr, hl⟩
theorem vecAt_row {w : World} {B n : Nat} {v : Value} {vs : List (Value × El)} (ho : w.ownsRow B 43 2 v n (cellsE vs)) (hl : ∀ x ∈ vs, LabsV w w.heap.size x.1 x.2.1) : VecAt w v vs := by
  obtain ⟨A, c, rfl⟩ := own_form ho
  have hn : vs.length = n := by have := ho.1; rw [cellsE_length] at this; omega
  subst hn
  exact ⟨A, c, rfl, Reads.of_own ho, hl⟩
theorem keptQ_map (vs : List (Value × El)) (grp : List Lb) (names : List ByteArray) (wo : Bool) : (keptQ vs grp names wo).map (·.2) = (vs.map (·.2)).filter fun y => decide (keepP y.1 names wo = grp) := by
  unfold keptQ
  rw [List.filter_map]
  rfl
theorem keptQ_mem {vs : List (Value × El)} {grp : List Lb} {names : List ByteArray} {wo : Bool} {x : Value × El} (h : x ∈ keptQ vs grp names wo) : x ∈ vs := (List.mem_filter.1 h).1

theorem whole_of (k : Nat) (hk : k < 6) : Whole (FloatKind.f64.nearest k) k := by
  have : k = 0 ∨ k = 1 ∨ k = 2 ∨ k = 3 ∨ k = 4 ∨ k = 5 := by omega
  rcases this with rfl | rfl | rfl | rfl | rfl | rfl
  all_goals exact ⟨by decide +kernel, by decide +kernel, by decide +kernel, by decide, by decide⟩

theorem group_call (wo : Bool) (A' : Option Addr) (m c' : Nat) (names : List ByteArray) (param : Nat) (text : ByteArray) (v : Value) (es : List El) (w : World)
    (h : VecV w w.heap.size v es) (hf : FineE es) (hnm : Reads w w.heap.size 1 A' m (names.map .string)) (hm : m ≤ 1048576) (htab : PowTab w) :
    Calls Tryz.prog 11 #[.agg #[.string ⟨#[103, 114, 111, 117, 112]⟩, .bool wo, .slice A' m c', .float .f64 param, .string text], v] w (GatherRes w es (SumOut (fun _ r => r = B1) names wo)) :=
  gather_sum .group (by intro e; cases e) (by intro e; cases e) (fun _ => True) (fun _ r => r = B1) (addOk_counted rfl) ansOk_group wo A' m c' names param text (by intro q e; cases e) v es w (fun _ _ _ _ => trivial) h hf hnm hm htab
theorem top_call (wo : Bool) (A' : Option Addr) (m c' : Nat) (names : List ByteArray) (k : Nat) (hk : k < 6) (text : ByteArray) (v : Value) (es : List El) (w : World)
    (h : VecV w w.heap.size v es) (hf : FineE es) (hnm : Reads w w.heap.size 1 A' m (names.map .string)) (hm : m ≤ 1048576) (htab : PowTab w) :
    Calls Tryz.prog 11 #[.agg #[.string ⟨#[116, 111, 112, 107]⟩, .bool wo, .slice A' m c', .float .f64 (floatOfInt .f64 k), .string text], v] w (GatherRes w es (TopOut true k names wo)) :=
  gather_top .topk (.inl rfl) wo A' m c' names _ k (whole_of k hk) text v es w h hf hnm hm htab
theorem low_call (wo : Bool) (A' : Option Addr) (m c' : Nat) (names : List ByteArray) (k : Nat) (hk : k < 6) (text : ByteArray) (v : Value) (es : List El) (w : World)
    (h : VecV w w.heap.size v es) (hf : FineE es) (hnm : Reads w w.heap.size 1 A' m (names.map .string)) (hm : m ≤ 1048576) (htab : PowTab w) :
    Calls Tryz.prog 11 #[.agg #[.string ⟨#[98, 111, 116, 116, 111, 109, 107]⟩, .bool wo, .slice A' m c', .float .f64 (floatOfInt .f64 k), .string text], v] w (GatherRes w es (TopOut false k names wo)) :=
  gather_top .bottomk (.inr rfl) wo A' m c' names _ k (whole_of k hk) text v es w h hf hnm hm htab

theorem sum_take_le (l : List Nat) (i : Nat) : (l.take i).sum ≤ l.sum := by
  have h : l.sum = (l.take i).sum + (l.drop i).sum := by rw [← List.sum_append, List.take_append_drop]
  omega

/-- What a round of the law finds. -/
structure RoundFacts (k : Nat) (pa ta la : List (Value × El)) : Prop where
  a_len : ta.length = min k pa.length
  b_len : la.length = ta.length
  a_all : ∀ y ∈ ta, holdsP pa y.2 = true
  b_a : ∀ y ∈ ta, holdsP la y.2 = true ∨ worseQ la y.2.2 false = false
  all_a : ∀ y ∈ pa, holdsP ta y.2 = true ∨ worseQ ta y.2.2 true = false
  all_b : ∀ y ∈ pa, holdsP la y.2 = true ∨ worseQ la y.2.2 false = false
theorem round_facts {es Gs T L : List El} {names : List ByteArray} {wo : Bool} {k : Nat} {vsP vsT vsL : List (Value × El)} (h : TopsFacts es names wo k Gs T L) (hP : vsP.map (·.2) = es) (hT : vsT.map (·.2) = T) (hL : vsL.map (·.2) = L) {x : El} (hx : x ∈ Gs) :
    RoundFacts k (keptQ vsP x.1 names wo) (keptQ vsT x.1 names wo) (keptQ vsL x.1 names wo) := by
  have e1 := keptQ_map vsP x.1 names wo
  have e2 := keptQ_map vsT x.1 names wo
  have e3 := keptQ_map vsL x.1 names wo
  rw [hP] at e1
  rw [hT] at e2
  rw [hL] at e3
  have l1 := congrArg List.length e1
  have l2 := congrArg List.length e2
  have l3 := congrArg List.length e3
  rw [List.length_map] at l1 l2 l3
  have m2 : ∀ y ∈ keptQ vsT x.1 names wo, y.2 ∈ T.filter fun y => decide (keepP y.1 names wo = x.1) := fun y hy => by rw [← e2]; exact List.mem_map_of_mem hy
  have m1 : ∀ y ∈ keptQ vsP x.1 names wo, y.2 ∈ es.filter fun y => decide (keepP y.1 names wo = x.1) := fun y hy => by rw [← e1]; exact List.mem_map_of_mem hy
  refine ⟨by rw [l1, l2]; exact h.a_len x hx, by rw [l2, l3]; exact h.b_len x hx, fun y hy => ?_, fun y hy => ?_, fun y hy => ?_, fun y hy => ?_⟩
  · rw [holdsP_eq, e1]; exact h.a_all x hx _ (m2 y hy)
  · rw [holdsP_eq, worseQ_eq, e3]; exact h.b_a x hx _ (m2 y hy)
  · rw [holdsP_eq, worseQ_eq, e2]; exact h.all_a x hx _ (m1 y hy)
  · rw [holdsP_eq, worseQ_eq, e3]; exact h.all_b x hx _ (m1 y hy)

set_option maxHeartbeats 8000000 in
set_option maxRecDepth 100000 in
theorem tops_any (ob : ByteArray) (wo : Bool) (A' : Option Addr) (m c' : Nat) (names : List ByteArray) (param : Nat) (text : ByteArray) (A : Option Addr) (n c : Nat) (es : List El) (ki : Int) (w : World)
    (hki : -9223372036854775808 ≤ ki ∧ ki ≤ 9223372036854775807) (h : VecV w w.heap.size (.slice A n c) es) (hf : FineE es) (hnm : Reads w w.heap.size 1 A' m (names.map .string)) (hm : m ≤ 1048576) (htab : PowTab w) :
    Calls Tryz.prog 7 #[.agg #[.string ob, .bool wo, .slice A' m c', .float .f64 param, .string text, .slice A n c], .int .i64 ki] w fun e w' => e = .returned (.bool true) ∧ RowKit.Below w.heap.size w w' := by
  have HV := Lib.hid h
  have HF := Lib.hid hf
  have HN := Lib.hid hnm
  have HT := Lib.hid htab
  have hb1 : RowKit.Below w.heap.size w (w.alloc (.cells #[.string ob, .bool wo, .slice A' m c', .float .f64 param, .string text, .slice A n c] 30)) := (Below.refl _ _).alloc (Nat.le_refl _) _
  have HB1 := Lib.hid hb1
  have HP1 := Lib.hid (Blk.new w 30 #[.string ob, .bool wo, .slice A' m c', .float .f64 param, .string text, .slice A n c])
  have HAW := Lib.hid (awake_any _ (htab.below hb1))
  have HVC : Hid (∀ W, RowKit.Below w.heap.size w W → Calls Tryz.prog 15 #[.slice A n c] W (VecRes W (vectorP es))) := fun W hb => vector_any _ es W ((HV.out.below hb).more hb.size) HF.out
  have HGC : Hid (∀ W, RowKit.Below w.heap.size w W → Calls Tryz.prog 11 #[.agg #[.string ⟨#[103, 114, 111, 117, 112]⟩, .bool wo, .slice A' m c', .float .f64 param, .string text], .slice A n c] W (GatherRes W es (SumOut (fun _ r => r = B1) names wo))) := fun W hb =>
    group_call wo A' m c' names param text _ es W ((HV.out.below hb).more hb.size) HF.out ((HN.out.below hb).more hb.size) hm (HT.out.below hb)
  clear h hf hnm htab hb1
  cases hv : vectorP es with
  | none =>
    rw [hv] at HVC
    clear hv
    go_enter Tryz.func7, Tryz.ntmps7
    go_wp2_with (first
      | (go_at_call 8; refine (Hid.out HAW).mono ?_; rintro e w2 ⟨rfl, hb2⟩
         have HB2 := Lib.hid (HB1.out.trans (hb2.mono (by simp)))
         have hp2 : Blk w2 w.heap.size 30 #[.string ob, .bool wo, .slice A' m c', .float .f64 param, .string text, .slice A n c] := HP1.out.below hb2 (by simp)
         have p5 : w2.cell? ⟨w.heap.size, 5, none⟩ = some (.slice A n c) := hp2.cell 5
         clear hb2 hp2)
      | (go_at_call 15; refine (HVC.out _ HB2.out).mono ?_; rintro e w3 ⟨hb3, rfl⟩))
    go_ret
    exact ⟨rfl, HB2.out.trans (hb3.mono HB2.out.size)⟩
  | some V =>
    rw [hv] at HVC
    have HVV := Lib.hid hv
    clear hv
    go_enter Tryz.func7, Tryz.ntmps7
    go_upto_region 8 with (first
      | (go_at_call 8; refine (Hid.out HAW).mono ?_; rintro e w2 ⟨rfl, hb2⟩
         have HB2 := Lib.hid (HB1.out.trans (hb2.mono (by simp)))
         have hp2 : Blk w2 w.heap.size 30 #[.string ob, .bool wo, .slice A' m c', .float .f64 param, .string text, .slice A n c] := HP1.out.below hb2 (by simp)
         have p5 : w2.cell? ⟨w.heap.size, 5, none⟩ = some (.slice A n c) := hp2.cell 5
         have HP2 := Lib.hid hp2
         clear hb2 hp2)
      | (go_at_call 15; refine (HVC.out _ HB2.out).mono ?_; rintro e w3 ⟨hb3, v3, rfl, hov3⟩
         have HB3 := Lib.hid (HB2.out.trans (hb3.mono HB2.out.size))
         have hp3 : Blk w3 w.heap.size 30 #[.string ob, .bool wo, .slice A' m c', .float .f64 param, .string text, .slice A n c] := HP2.out.below hb3 HP2.out.lt
         have hl3 := hp3.lt
         have o0 : w3.cell? ⟨w.heap.size, 0, none⟩ = some (.string ob) := hp3.cell 0
         have o1 : w3.cell? ⟨w.heap.size, 1, none⟩ = some (.bool wo) := hp3.cell 1
         have o2 : w3.cell? ⟨w.heap.size, 2, none⟩ = some (.slice A' m c') := hp3.cell 2
         have o3 : w3.cell? ⟨w.heap.size, 3, none⟩ = some (.float .f64 param) := hp3.cell 3
         have o4 : w3.cell? ⟨w.heap.size, 4, none⟩ = some (.string text) := hp3.cell 4
         have o5 : w3.cell? ⟨w.heap.size, 5, none⟩ = some (.slice A n c) := hp3.cell 5
         have HP3 := Lib.hid hp3
         obtain ⟨vs3, _, ho3, _, _⟩ := hov3
         obtain ⟨A3, c3, rfl⟩ := own_form ho3
         clear hb3 hp3 ho3 p5))
    obtain ⟨gb, hgb⟩ : ∃ gb, w3.heap.size = gb := ⟨_, rfl⟩
    obtain ⟨w4, hw4⟩ : ∃ w4, w3.alloc (.cells #[.string ⟨#[103, 114, 111, 117, 112]⟩, .bool wo, .slice A' m c', .float .f64 param, .string text] 27) = w4 := ⟨_, rfl⟩
    have hb4 : RowKit.Below w.heap.size w w4 := by rw [← hw4]; exact HB3.out.alloc HB3.out.size _
    have hg4 : Blk w4 gb 27 #[.string ⟨#[103, 114, 111, 117, 112]⟩, .bool wo, .slice A' m c', .float .f64 param, .string text] := by rw [← hw4]; exact Blk.new_at _ _ _ _ hgb.symm
    have hp4 : Blk w4 w.heap.size 30 #[.string ob, .bool wo, .slice A' m c', .float .f64 param, .string text, .slice A n c] := by rw [← hw4]; exact HP3.out.alloc _
    have hPg : ¬ w.heap.size = gb := by omega
    have hgP : ¬ gb = w.heap.size := by omega
    have hwg : w.heap.size < gb := by omega
    rw [hw4, hgb]
    clear hw4 o0 o1 o2 o3 o4 o5
    have g0 : w4.cell? ⟨gb, 0, none⟩ = some (.string ⟨#[103, 114, 111, 117, 112]⟩) := hg4.cell 0
    have g1 : w4.cell? ⟨gb, 1, none⟩ = some (.bool wo) := hg4.cell 1
    have g2 : w4.cell? ⟨gb, 2, none⟩ = some (.slice A' m c') := hg4.cell 2
    have g3 : w4.cell? ⟨gb, 3, none⟩ = some (.float .f64 param) := hg4.cell 3
    have g4 : w4.cell? ⟨gb, 4, none⟩ = some (.string text) := hg4.cell 4
    have o5 : w4.cell? ⟨w.heap.size, 5, none⟩ = some (.slice A n c) := hp4.cell 5
    have HB4 := Lib.hid hb4
    have HG4 := Lib.hid hg4
    have HP4 := Lib.hid hp4
    clear hb4 hg4 hp4 hgb
    go_wp2_with fail
    refine (HGC.out _ HB4.out).mono ?_
    rintro e w5 ⟨hb5, hr5⟩
    rw [HVV.out] at hr5
    obtain ⟨out, ⟨rs, hrl, _, rfl⟩, hvp⟩ := hr5
    obtain ⟨Gs, T0, L0, hGs, _⟩ := tops_facts (k := 0) HVV.out hrl
    rw [hGs] at hvp
    obtain ⟨vg, rfl, hog⟩ := hvp
    have HRL := Lib.hid hrl
    have HGS := Lib.hid hGs
    obtain ⟨vsG, hvG, hatG⟩ := ownAt_own hog
    have HVG := Lib.hid hvG
    have HAG := Lib.hid hatG
    have hB4g : gb < w4.heap.size := HG4.out.lt
    obtain ⟨Ag, cg, rfl⟩ := own_form hatG.1
    have HB5 := Lib.hid (HB4.out.trans (hb5.mono HB4.out.size))
    have hg5 : Blk w5 gb 27 #[.string ⟨#[103, 114, 111, 117, 112]⟩, .bool wo, .slice A' m c', .float .f64 param, .string text] := HG4.out.below hb5 HG4.out.lt
    have hp5 : Blk w5 w.heap.size 30 #[.string ob, .bool wo, .slice A' m c', .float .f64 param, .string text, .slice A n c] := HP4.out.below hb5 HP4.out.lt
    have HG5 := Lib.hid hg5
    have HP5 := Lib.hid hp5
    have i0 : w5.cell? ⟨gb, 0, none⟩ = some (.string ⟨#[103, 114, 111, 117, 112]⟩) := hg5.cell 0
    have i1 : w5.cell? ⟨gb, 1, none⟩ = some (.bool wo) := hg5.cell 1
    have i2 : w5.cell? ⟨gb, 2, none⟩ = some (.slice A' m c') := hg5.cell 2
    have i3 : w5.cell? ⟨gb, 3, none⟩ = some (.float .f64 param) := hg5.cell 3
    have i4 : w5.cell? ⟨gb, 4, none⟩ = some (.string text) := hg5.cell 4
    have f0 : w5.frozen? ⟨gb, 0, none⟩ = false := hg5.frozen 0
    have f3 : w5.frozen? ⟨gb, 3, none⟩ = false := hg5.frozen 3
    have j5 : w5.cell? ⟨w.heap.size, 5, none⟩ = some (.slice A n c) := hp5.cell 5
    clear hb5 hog hatG hrl hGs hvG hg5 hp5 g0 g1 g2 g3 g4 o5
    go_upto_region 13 with (go_at_call 19; refine (place_any ki hki _).mono ?_; rintro e w6 ⟨k, hk6, rfl, rfl⟩)
    have HTC : Hid (∀ W, RowKit.Below w.heap.size w W → Calls Tryz.prog 11 #[.agg #[.string ⟨#[116, 111, 112, 107]⟩, .bool wo, .slice A' m c', .float .f64 (floatOfInt .f64 k), .string text], .slice A n c] W (GatherRes W es (TopOut true k names wo))) := fun W hb =>
      top_call wo A' m c' names k hk6 text _ es W ((HV.out.below hb).more hb.size) HF.out ((HN.out.below hb).more hb.size) hm (HT.out.below hb)
    have HLC : Hid (∀ W, RowKit.Below w.heap.size w W → Calls Tryz.prog 11 #[.agg #[.string ⟨#[98, 111, 116, 116, 111, 109, 107]⟩, .bool wo, .slice A' m c', .float .f64 (floatOfInt .f64 k), .string text], .slice A n c] W (GatherRes W es (TopOut false k names wo))) := fun W hb =>
      low_call wo A' m c' names k hk6 text _ es W ((HV.out.below hb).more hb.size) HF.out ((HN.out.below hb).more hb.size) hm (HT.out.below hb)
    generalize floatOfInt .f64 (k : Int) = pk at *
    obtain ⟨Gs', T, L, hGs', hTs, hLs, hfacts, hTe, hLe, hGk, hGl⟩ := tops_facts (k := k) HVV.out HRL.out
    obtain rfl : Gs' = Gs := by have := HGS.out; rw [hGs'] at this; injection this
    have HTS := Lib.hid hTs
    have HLS := Lib.hid hLs
    have HFACT := Lib.hid hfacts
    have HTE := Lib.hid hTe
    have HLE := Lib.hid hLe
    have HGK := Lib.hid hGk
    have HGL := Lib.hid hGl
    clear hGs' hTs hLs hfacts hTe hLe hGk hGl
    obtain ⟨w6, hw6⟩ : ∃ w6, (w5.setCell ⟨gb, 3, none⟩ (.float .f64 pk)).setCell ⟨gb, 0, none⟩ (.string ⟨#[116, 111, 112, 107]⟩) = w6 := ⟨_, rfl⟩
    rw [hw6]
    have hb56 : Chg (fun q => q = gb) w5 w6 := by rw [← hw6]; exact ((Chg.refl (fun q => q = gb) w5).setCell (p := ⟨gb, 3, none⟩) (.inr rfl) _).setCell (p := ⟨gb, 0, none⟩) (.inr rfl) _
    have hg6 : Blk w6 gb 27 #[.string ⟨#[116, 111, 112, 107]⟩, .bool wo, .slice A' m c', .float .f64 pk, .string text] := by
      rw [← hw6]
      have := (HG5.out.set_ 3 (.float .f64 pk)).set_ 0 (.string ⟨#[116, 111, 112, 107]⟩)
      simpa using this
    have hp6 : Blk w6 w.heap.size 30 #[.string ob, .bool wo, .slice A' m c', .float .f64 param, .string text, .slice A n c] := HP5.out.chg hb56 hPg
    have hb6 : RowKit.Below w.heap.size w w6 := HB5.out.trans (hb56.below HB5.out.size (fun q hq e => by omega))
    have hag6 : OwnAt w6 w4.heap.size (.slice Ag vsG.length cg) vsG := HAG.out.chg hb56 (fun q e => by have e' : q = gb := e; omega)
    have HAG6 := Lib.hid hag6
    clear hw6 i0 i1 i2 i3 i4 f0 f3 j5 hag6
    have g0 : w6.cell? ⟨gb, 0, none⟩ = some (.string ⟨#[116, 111, 112, 107]⟩) := hg6.cell 0
    have g1 : w6.cell? ⟨gb, 1, none⟩ = some (.bool wo) := hg6.cell 1
    have g2 : w6.cell? ⟨gb, 2, none⟩ = some (.slice A' m c') := hg6.cell 2
    have g3 : w6.cell? ⟨gb, 3, none⟩ = some (.float .f64 pk) := hg6.cell 3
    have g4 : w6.cell? ⟨gb, 4, none⟩ = some (.string text) := hg6.cell 4
    have o5 : w6.cell? ⟨w.heap.size, 5, none⟩ = some (.slice A n c) := hp6.cell 5
    have HB6 := Lib.hid hb6
    have HG6 := Lib.hid hg6
    have HP6 := Lib.hid hp6
    clear hb6 hg6 hp6 hb56
    go_wp2_with fail
    refine (HTC.out _ HB6.out).mono ?_
    rintro e w7 ⟨hb7, hr7⟩
    rw [HVV.out] at hr7
    obtain ⟨out7, hout7, hvp⟩ := hr7
    rw [show out7 = _ from hout7, HTS.out] at hvp
    obtain ⟨vt, rfl, hot⟩ := hvp
    obtain ⟨vsT, hvT, hatT⟩ := ownAt_own hot
    have HVT := Lib.hid hvT
    have HAT := Lib.hid hatT
    have hB6g : gb < w6.heap.size := HG6.out.lt
    obtain ⟨At, ct, rfl⟩ := own_form hatT.1
    have HB7 := Lib.hid (HB6.out.trans (hb7.mono HB6.out.size))
    have hg7 : Blk w7 gb 27 #[.string ⟨#[116, 111, 112, 107]⟩, .bool wo, .slice A' m c', .float .f64 pk, .string text] := HG6.out.below hb7 HG6.out.lt
    have hp7 : Blk w7 w.heap.size 30 #[.string ob, .bool wo, .slice A' m c', .float .f64 param, .string text, .slice A n c] := HP6.out.below hb7 HP6.out.lt
    have HAG7 := Lib.hid (HAG6.out.below hb7)
    have HG7 := Lib.hid hg7
    have HP7 := Lib.hid hp7
    have i0 : w7.cell? ⟨gb, 0, none⟩ = some (.string ⟨#[116, 111, 112, 107]⟩) := hg7.cell 0
    have i1 : w7.cell? ⟨gb, 1, none⟩ = some (.bool wo) := hg7.cell 1
    have i2 : w7.cell? ⟨gb, 2, none⟩ = some (.slice A' m c') := hg7.cell 2
    have i3 : w7.cell? ⟨gb, 3, none⟩ = some (.float .f64 pk) := hg7.cell 3
    have i4 : w7.cell? ⟨gb, 4, none⟩ = some (.string text) := hg7.cell 4
    have f0 : w7.frozen? ⟨gb, 0, none⟩ = false := hg7.frozen 0
    have j5 : w7.cell? ⟨w.heap.size, 5, none⟩ = some (.slice A n c) := hp7.cell 5
    clear hb7 hot hatT hvT hg7 hp7 g0 g1 g2 g3 g4 o5 hout7
    go_upto_region 15 with fail
    obtain ⟨w8, hw8⟩ : ∃ w8, w7.setCell ⟨gb, 0, none⟩ (.string ⟨#[98, 111, 116, 116, 111, 109, 107]⟩) = w8 := ⟨_, rfl⟩
    rw [hw8]
    have hb78 : Chg (fun q => q = gb) w7 w8 := by rw [← hw8]; exact (Chg.refl (fun q => q = gb) w7).setCell (p := ⟨gb, 0, none⟩) (.inr rfl) _
    have hg8 : Blk w8 gb 27 #[.string ⟨#[98, 111, 116, 116, 111, 109, 107]⟩, .bool wo, .slice A' m c', .float .f64 pk, .string text] := by
      rw [← hw8]
      have := HG7.out.set_ 0 (.string ⟨#[98, 111, 116, 116, 111, 109, 107]⟩)
      simpa using this
    have hp8 : Blk w8 w.heap.size 30 #[.string ob, .bool wo, .slice A' m c', .float .f64 param, .string text, .slice A n c] := HP7.out.chg hb78 hPg
    have hb8 : RowKit.Below w.heap.size w w8 := HB7.out.trans (hb78.below HB7.out.size (fun q hq e => by omega))
    have HAG8 := Lib.hid (HAG7.out.chg hb78 (fun q e => by have e' : q = gb := e; omega))
    have HAT8 := Lib.hid (HAT.out.chg hb78 (fun q e => by have e' : q = gb := e; omega))
    clear hw8 i0 i1 i2 i3 i4 f0 j5
    have g0 : w8.cell? ⟨gb, 0, none⟩ = some (.string ⟨#[98, 111, 116, 116, 111, 109, 107]⟩) := hg8.cell 0
    have g1 : w8.cell? ⟨gb, 1, none⟩ = some (.bool wo) := hg8.cell 1
    have g2 : w8.cell? ⟨gb, 2, none⟩ = some (.slice A' m c') := hg8.cell 2
    have g3 : w8.cell? ⟨gb, 3, none⟩ = some (.float .f64 pk) := hg8.cell 3
    have g4 : w8.cell? ⟨gb, 4, none⟩ = some (.string text) := hg8.cell 4
    have o5 : w8.cell? ⟨w.heap.size, 5, none⟩ = some (.slice A n c) := hp8.cell 5
    have HB8 := Lib.hid hb8
    have HG8 := Lib.hid hg8
    have HP8 := Lib.hid hp8
    clear hb8 hg8 hp8 hb78
    go_wp2_with fail
    refine (HLC.out _ HB8.out).mono ?_
    rintro e w9 ⟨hb9, hr9⟩
    rw [HVV.out] at hr9
    obtain ⟨out9, hout9, hvp⟩ := hr9
    rw [show out9 = _ from hout9, HLS.out] at hvp
    obtain ⟨vl, rfl, hol⟩ := hvp
    obtain ⟨vsL, hvL, hatL⟩ := ownAt_own hol
    have HVL := Lib.hid hvL
    have HAL := Lib.hid hatL.vecAt
    obtain ⟨Al, cl, rfl⟩ := own_form hatL.1
    have HAG9 := Lib.hid (HAG8.out.below hb9).vecAt
    have HAT9 := Lib.hid (HAT8.out.below hb9).vecAt
    have HG9 := Lib.hid (HG8.out.below hb9 HG8.out.lt)
    have HP9 := Lib.hid (HP8.out.below hb9 HP8.out.lt)
    have HB9 := Lib.hid (HB8.out.trans (hb9.mono HB8.out.size))
    have hVp9 := (HV.out.below HB9.out).more HB9.out.size
    obtain ⟨vsP, hvP, hatP⟩ := vecAt_vec hVp9
    have hnP : n = vsP.length := by obtain ⟨a, b, he, _⟩ := hatP; injection he
    subst hnP
    have HVP := Lib.hid hvP
    have HAP := Lib.hid hatP
    have hlTL : ((vsT.length : Int) != (vsL.length : Int)) = false := by
      have h1 := congrArg List.length HVT.out
      have h2 := congrArg List.length HVL.out
      rw [List.length_map] at h1 h2
      have h3 := HFACT.out.lenT
      rw [bne_eq_false_iff_eq]; omega
    clear hb9 hol hatL hvL hout9 hVp9 hvP hatP g0 g1 g2 g3 g4 o5
    obtain ⟨HRG, HLG⟩ : Hid (Reads w9 w9.heap.size 2 Ag vsG.length (cellsE vsG)) ∧ Hid (∀ x ∈ vsG, LabsV w9 w9.heap.size x.1 x.2.1) := by
      obtain ⟨a, b, he, h1, h2⟩ := HAG9.out
      injection he with he _ _
      subst he
      exact ⟨h1, h2⟩
    have hlP : vsP.length ≤ 1048576 := by
      have h1 := congrArg List.length HVP.out
      rw [List.length_map] at h1
      have := HF.out.1
      omega
    have hlT : vsT.length ≤ 1048576 := by
      have h1 := congrArg List.length HVT.out
      rw [List.length_map] at h1
      have h2 := HFACT.out.lenE
      have := HF.out.1
      omega
    have hlL : vsL.length ≤ 1048576 := by
      have h1 := congrArg List.length HVL.out
      rw [List.length_map] at h1
      have h2 := congrArg List.length HVT.out
      rw [List.length_map] at h2
      have h3 := HFACT.out.lenT
      omega
    have hlG : vsG.length ≤ 1048576 := by
      have h1 := congrArg List.length HVG.out
      rw [List.length_map] at h1
      have := HGL.out
      have := HF.out.1
      omega
    have HFP : Hid (∀ x ∈ vsP, FineL x.2.1) := fun x hx => HF.out.2 x.2 (by rw [← HVP.out]; exact List.mem_map_of_mem hx)
    have HFT : Hid (∀ x ∈ vsT, FineL x.2.1) := fun x hx => HF.out.2 x.2 (HTE.out x.2 (by rw [← HVT.out]; exact List.mem_map_of_mem hx))
    have HFL : Hid (∀ x ∈ vsL, FineL x.2.1) := fun x hx => HF.out.2 x.2 (HLE.out x.2 (by rw [← HVL.out]; exact List.mem_map_of_mem hx))
    have HFG : Hid (∀ x ∈ vsG, FineL x.2.1) := fun x hx => by
      obtain ⟨y, hy, e⟩ := HGK.out x.2 (by rw [← HVG.out]; exact List.mem_map_of_mem hx)
      rw [e]
      exact fineL_keep (HF.out.2 y hy) names wo
    have hgl9 : gb < w9.heap.size := HG9.out.lt
    have hpl9 : w.heap.size < w9.heap.size := HP9.out.lt
    obtain ⟨nsum, hns⟩ : ∃ f : Nat → Nat, ∀ i, f i = ((vsG.take i).map fun x => (keptQ vsT x.2.1 names wo).length).sum := ⟨_, fun i => rfl⟩
    have HNS := Lib.hid hns
    have hnsb : Hid (∀ i, nsum i ≤ 1048576) := fun i => by
      have h1 := HFACT.out.total
      rw [← HVG.out, List.map_map] at h1
      have h2 := sum_take_le (vsG.map fun x => (keptQ vsT x.2.1 names wo).length) i
      rw [← List.map_take, ← HNS.out] at h2
      have h3 : (vsG.map fun x => (keptQ vsT x.2.1 names wo).length).sum = T.length := by
        rw [← h1]
        congr 1
        apply List.map_congr_left
        intro x hx
        have := congrArg List.length (keptQ_map vsT x.2.1 names wo)
        rw [List.length_map, HVT.out] at this
        exact this
      have h4 := HFACT.out.lenE
      have := HF.out.1
      omega
    clear hns
    go_wp2_with fail
    go_loopw [10, 80] (fun nv iv wr => ∃ i : Nat, i ≤ vsG.length ∧ iv = .int .i64 i ∧ nv = .int .i64 (nsum i) ∧ Hid (RowKit.Below w9.heap.size w9 wr)) (fun _ iv _ => vsG.length - (intOf iv).toNat)
    case atStart => exact ⟨0, by omega, by go_num, by rw [HNS.out]; rfl, RowKit.Below.refl _ _⟩
    case round =>
      obtain ⟨i, hi, rfl, rfl, HBR⟩ := hrel
      have hwr := HBR.out.size
      by_cases hlt : i < vsG.length
      · obtain ⟨b, off, rfl, hbl, hcc⟩ := HRG.out.at_ hlt
        have hy := cellsE_get vsG i hlt
        have hlx := HLG.out vsG[i] (List.getElem_mem _)
        have hfx := HFG.out vsG[i] (List.getElem_mem _)
        have hxG : vsG[i].2 ∈ Gs' := by rw [← HVG.out]; exact List.mem_map_of_mem (List.getElem_mem _)
        have hrf := round_facts HFACT.out HVP.out HVT.out HVL.out hxG
        have hns1 : nsum (i + 1) = nsum i + (keptQ vsT vsG[i].2.1 names wo).length := by
          rw [HNS.out, HNS.out, List.take_succ_eq_append_getElem hlt, List.map_append, List.sum_append]
          simp
        have c0 := (HBR.out.cell (p := ⟨b, off + i * 2, none⟩) hbl).trans (hcc _ _ hy.1)
        have c1 := (HBR.out.cell (p := ⟨b, off + i * 2 + 1, none⟩) hbl).trans (hcc _ _ hy.2)
        obtain ⟨x, hxx⟩ : ∃ x, vsG[i] = x := ⟨_, rfl⟩
        rw [hxx] at c0 c1 hlx hfx hrf hns1
        clear hy hcc hxx hxG
        obtain ⟨xv, xe⟩ := x
        dsimp only at c0 c1 hlx hfx hrf hns1
        obtain ⟨Ax, nx, cx, rfl⟩ := labsV_sl hlx
        obtain ⟨pa, hals⟩ : ∃ pa, keptQ vsP xe.1 names wo = pa := ⟨_, rfl⟩
        obtain ⟨ta, has⟩ : ∃ ta, keptQ vsT xe.1 names wo = ta := ⟨_, rfl⟩
        obtain ⟨la, hbs⟩ : ∃ la, keptQ vsL xe.1 names wo = la := ⟨_, rfl⟩
        have HKP : Hid (∀ W, RowKit.Below w9.heap.size w9 W → Calls Tryz.prog 20 #[.slice A vsP.length c, .slice Ax nx cx, .agg #[.string ⟨#[98, 111, 116, 116, 111, 109, 107]⟩, .bool wo, .slice A' m c', .float .f64 pk, .string text]] W (RowRes 43 2 pa.length (cellsE pa) W)) := fun W hb => by
          rw [← hals]
          exact kept_any _ vsP _ xe.1 _ text wo A' m c' names pk W (HAP.out.below hb) HFP.out hlP ((hlx.below hb).more hb.size) hfx.1 ((HN.out.below (HB9.out.trans (hb.mono HB9.out.size))).more (by have := HB9.out.size; have := hb.size; omega)) hm
        have HKT : Hid (∀ W, RowKit.Below w9.heap.size w9 W → Calls Tryz.prog 20 #[.slice At vsT.length ct, .slice Ax nx cx, .agg #[.string ⟨#[98, 111, 116, 116, 111, 109, 107]⟩, .bool wo, .slice A' m c', .float .f64 pk, .string text]] W (RowRes 43 2 ta.length (cellsE ta) W)) := fun W hb => by
          rw [← has]
          exact kept_any _ vsT _ xe.1 _ text wo A' m c' names pk W (HAT9.out.below hb) HFT.out hlT ((hlx.below hb).more hb.size) hfx.1 ((HN.out.below (HB9.out.trans (hb.mono HB9.out.size))).more (by have := HB9.out.size; have := hb.size; omega)) hm
        have HKL : Hid (∀ W, RowKit.Below w9.heap.size w9 W → Calls Tryz.prog 20 #[.slice Al vsL.length cl, .slice Ax nx cx, .agg #[.string ⟨#[98, 111, 116, 116, 111, 109, 107]⟩, .bool wo, .slice A' m c', .float .f64 pk, .string text]] W (RowRes 43 2 la.length (cellsE la) W)) := fun W hb => by
          rw [← hbs]
          exact kept_any _ vsL _ xe.1 _ text wo A' m c' names pk W (HAL.out.below hb) HFL.out hlL ((hlx.below hb).more hb.size) hfx.1 ((HN.out.below (HB9.out.trans (hb.mono HB9.out.size))).more (by have := HB9.out.size; have := hb.size; omega)) hm
        have mals : Hid (∀ y ∈ pa, y ∈ vsP) := fun y hy => keptQ_mem (by rw [hals]; exact hy)
        have mas : Hid (∀ y ∈ ta, y ∈ vsT) := fun y hy => keptQ_mem (by rw [has]; exact hy)
        have mbs : Hid (∀ y ∈ la, y ∈ vsL) := fun y hy => keptQ_mem (by rw [hbs]; exact hy)
        have lals : pa.length ≤ 1048576 := by rw [← hals]; exact Nat.le_trans (List.length_filter_le _ _) hlP
        have las : ta.length ≤ 1048576 := by rw [← has]; exact Nat.le_trans (List.length_filter_le _ _) hlT
        have lbs : la.length ≤ 1048576 := by rw [← hbs]; exact Nat.le_trans (List.length_filter_le _ _) hlL
        rw [hals, has, hbs] at hrf
        rw [has] at hns1
        have HRF := Lib.hid hrf
        have HNS1 := Lib.hid hns1
        clear hals has hbs hrf hns1 hlx hfx
        have hg := HG9.out.below HBR.out hgl9
        have hp := HP9.out.below HBR.out hpl9
        have hgl := hg.lt
        have hpl := hp.lt
        have HBA := Lib.hid (HBR.out.alloc hwr (.cells #[.slice Ax nx cx, .float .f64 xe.2] 43))
        have QS : Hid (∀ W2, RowKit.Below (wr.heap.size + 1) (wr.alloc (.cells #[.slice Ax nx cx, .float .f64 xe.2] 43)) W2 → (fun W : World => W.cell? ⟨w.heap.size, 5, none⟩ = some (.slice A vsP.length c) ∧ W.cell? ⟨wr.heap.size, 0, none⟩ = some (.slice Ax nx cx) ∧
            W.cell? ⟨gb, 0, none⟩ = some (.string ⟨#[98, 111, 116, 116, 111, 109, 107]⟩) ∧ W.cell? ⟨gb, 1, none⟩ = some (.bool wo) ∧ W.cell? ⟨gb, 2, none⟩ = some (.slice A' m c') ∧ W.cell? ⟨gb, 3, none⟩ = some (.float .f64 pk) ∧ W.cell? ⟨gb, 4, none⟩ = some (.string text)) W2) := fun W2 hb => by
          have h1 := (hp.alloc (.cells #[.slice Ax nx cx, .float .f64 xe.2] 43)).below hb (by omega)
          have h2 := (hg.alloc (.cells #[.slice Ax nx cx, .float .f64 xe.2] 43)).below hb (by omega)
          have h3 := (Blk.new wr 43 #[.slice Ax nx cx, .float .f64 xe.2]).below hb (by omega)
          exact ⟨h1.cell 5, h3.cell 0, h2.cell 0, h2.cell 1, h2.cell 2, h2.cell 3, h2.cell 4⟩
        obtain ⟨z1, z2, z3, z4, z5, z6, z7⟩ := QS.out _ (RowKit.Below.refl _ _)
        clear hg hp
        go_upto_region 21 with fail
        go_region_held3 (fun W => W.cell? ⟨w.heap.size, 5, none⟩ = some (.slice A vsP.length c) ∧ W.cell? ⟨wr.heap.size, 0, none⟩ = some (.slice Ax nx cx) ∧
            W.cell? ⟨gb, 0, none⟩ = some (.string ⟨#[98, 111, 116, 116, 111, 109, 107]⟩) ∧ W.cell? ⟨gb, 1, none⟩ = some (.bool wo) ∧ W.cell? ⟨gb, 2, none⟩ = some (.slice A' m c') ∧ W.cell? ⟨gb, 3, none⟩ = some (.float .f64 pk) ∧ W.cell? ⟨gb, 4, none⟩ = some (.string text))
          (first | go_keep | exact k10 | exact k11 | exact k12)
          (first
            | ((with_reducible refine (HKP.out _ HBA.out.drew).mono ?_)
               rintro e w10 ⟨v10, rfl, hown10, hb10⟩
               obtain ⟨A10, c10, rfl⟩ := own_form hown10
               have HS10 : Hid (RowKit.Below (wr.heap.size + 1) (wr.alloc (.cells #[.slice Ax nx cx, .float .f64 xe.2] 43)) w10) := (RowKit.Below.refl _ _).drew.trans (hb10.mono (by show _ ≤ (wr.alloc _).heap.size; simp))
               have k10 := QS.out _ HS10.out
               have HO10 := Lib.hid hown10
               have HB10 := Lib.hid (HBA.out.drew.trans (hb10.mono (by show _ ≤ (wr.alloc _).heap.size; simp; omega)))
               clear hown10 hb10)
            | ((with_reducible refine (HKT.out _ HB10.out).mono ?_)
               rintro e w11 ⟨v11, rfl, hown11, hb11⟩
               obtain ⟨A11, c11, rfl⟩ := own_form hown11
               have HS11 : Hid (RowKit.Below (wr.heap.size + 1) (wr.alloc (.cells #[.slice Ax nx cx, .float .f64 xe.2] 43)) w11) := HS10.out.trans (hb11.mono (by have := HS10.out.size; rw [World.size_alloc] at this; exact this))
               have k11 := QS.out _ HS11.out
               have HO10b := Lib.hid (own_below HO10.out hb11)
               have HO11 := Lib.hid hown11
               have HB11 := Lib.hid (HB10.out.trans (hb11.mono HB10.out.size))
               clear hown11 hb11)
            | ((with_reducible refine (HKL.out _ HB11.out).mono ?_)
               rintro e w12 ⟨v12, rfl, hown12, hb12⟩
               obtain ⟨A12, c12, rfl⟩ := own_form hown12
               have HS12 : Hid (RowKit.Below (wr.heap.size + 1) (wr.alloc (.cells #[.slice Ax nx cx, .float .f64 xe.2] 43)) w12) := HS11.out.trans (hb12.mono (by have := HS11.out.size; rw [World.size_alloc] at this; exact this))
               have k12 := QS.out _ HS12.out
               have HB12 := Lib.hid (HB11.out.trans (hb12.mono HB11.out.size))
               have HALS := Lib.hid (vecAt_row (own_below HO10b.out hb12) (fun y hy => by obtain ⟨_, _, _, _, h⟩ := HAP.out.below HB12.out; exact h y (mals.out y hy)))
               have HAS := Lib.hid (vecAt_row (own_below HO11.out hb12) (fun y hy => by obtain ⟨_, _, _, _, h⟩ := HAT9.out.below HB12.out; exact h y (mas.out y hy)))
               have HBS := Lib.hid (vecAt_row hown12 (fun y hy => by obtain ⟨_, _, _, _, h⟩ := HAL.out.below HB12.out; exact h y (mbs.out y hy)))
               clear hown12 hb12))
        clear z1 z2 z3 z4 z5 z6 z7 k10 k11 k12 c0 c1
        have hnb := hnsb.out i
        have hta : ((ta.length : Int) != min (k : Int) (pa.length : Int)) = false := by have := HRF.out.a_len; rw [bne_eq_false_iff_eq]; omega
        have hla : ((la.length : Int) != (ta.length : Int)) = false := by have := HRF.out.b_len; rw [bne_eq_false_iff_eq]; omega
        obtain ⟨HRP, HLP⟩ : Hid (Reads w12 w12.heap.size 2 A10 pa.length (cellsE pa)) ∧ Hid (∀ x ∈ pa, LabsV w12 w12.heap.size x.1 x.2.1) := by
          obtain ⟨a, b, he, h1, h2⟩ := HALS.out
          injection he with he _ _
          subst he
          exact ⟨h1, h2⟩
        obtain ⟨HRA, HLA⟩ : Hid (Reads w12 w12.heap.size 2 A11 ta.length (cellsE ta)) ∧ Hid (∀ x ∈ ta, LabsV w12 w12.heap.size x.1 x.2.1) := by
          obtain ⟨a, b, he, h1, h2⟩ := HAS.out
          injection he with he _ _
          subst he
          exact ⟨h1, h2⟩
        have HHP : Hid (∀ W yv (ye : El), RowKit.Below w12.heap.size w12 W → LabsV W W.heap.size yv ye.1 → ye.1.length ≤ 1048576 → Calls Tryz.prog 21 #[.slice A10 pa.length c10, .agg #[yv, .float .f64 ye.2]] W fun e w' => e = .returned (.bool (holdsP pa ye)) ∧ RowKit.Below W.heap.size W w') :=
          fun W yv ye hb h1 h2 => holds_any _ pa yv ye W (HALS.out.below hb) lals h1 h2
        have HHA : Hid (∀ W yv (ye : El), RowKit.Below w12.heap.size w12 W → LabsV W W.heap.size yv ye.1 → ye.1.length ≤ 1048576 → Calls Tryz.prog 21 #[.slice A11 ta.length c11, .agg #[yv, .float .f64 ye.2]] W fun e w' => e = .returned (.bool (holdsP ta ye)) ∧ RowKit.Below W.heap.size W w') :=
          fun W yv ye hb h1 h2 => holds_any _ ta yv ye W (HAS.out.below hb) las h1 h2
        have HHL : Hid (∀ W yv (ye : El), RowKit.Below w12.heap.size w12 W → LabsV W W.heap.size yv ye.1 → ye.1.length ≤ 1048576 → Calls Tryz.prog 21 #[.slice A12 la.length c12, .agg #[yv, .float .f64 ye.2]] W fun e w' => e = .returned (.bool (holdsP la ye)) ∧ RowKit.Below W.heap.size W w') :=
          fun W yv ye hb h1 h2 => holds_any _ la yv ye W (HBS.out.below hb) lbs h1 h2
        have HWA : Hid (∀ W yv (yb : Nat), RowKit.Below w12.heap.size w12 W → IsSl yv → Calls Tryz.prog 22 #[.slice A11 ta.length c11, .agg #[yv, .float .f64 yb], .bool true] W fun e w' => e = .returned (.bool (worseQ ta yb true)) ∧ RowKit.Below W.heap.size W w') :=
          fun W yv yb hb h1 => worseQ_any _ ta yv h1 yb true W (HAS.out.below hb) las
        have HWL : Hid (∀ W yv (yb : Nat), RowKit.Below w12.heap.size w12 W → IsSl yv → Calls Tryz.prog 22 #[.slice A12 la.length c12, .agg #[yv, .float .f64 yb], .bool false] W fun e w' => e = .returned (.bool (worseQ la yb false)) ∧ RowKit.Below W.heap.size W w') :=
          fun W yv yb hb h1 => worseQ_any _ la yv h1 yb false W (HBS.out.below hb) lbs
        clear HKP HKT HKL QS
        go_wp2_with fail
        go_loopw [120] (fun jv wi => ∃ j : Nat, j ≤ ta.length ∧ jv = .int .i64 j ∧ Hid (RowKit.Below w12.heap.size w12 wi)) (fun jv _ => ta.length - (intOf jv).toNat)
        case atStart => exact ⟨0, by omega, by go_num, RowKit.Below.refl _ _⟩
        case round =>
          obtain ⟨j, hj, rfl, HBI⟩ := hrel
          have hwi := HBI.out.size
          by_cases hjl : j < ta.length
          · obtain ⟨b2, off2, rfl, hbl2, hcc2⟩ := HRA.out.at_ hjl
            have hy := cellsE_get ta j hjl
            have hly := HLA.out ta[j] (List.getElem_mem _)
            have hmy := mas.out ta[j] (List.getElem_mem _)
            have hfy := HFT.out _ hmy
            have hR1 := HRF.out.a_all ta[j] (List.getElem_mem _)
            have hR2 := HRF.out.b_a ta[j] (List.getElem_mem _)
            have d0 := (HBI.out.cell (p := ⟨b2, off2 + j * 2, none⟩) hbl2).trans (hcc2 _ _ hy.1)
            have d1 := (HBI.out.cell (p := ⟨b2, off2 + j * 2 + 1, none⟩) hbl2).trans (hcc2 _ _ hy.2)
            obtain ⟨y, hyy⟩ : ∃ y, ta[j] = y := ⟨_, rfl⟩
            rw [hyy] at d0 d1 hly hfy hR1 hR2
            clear hy hcc2 hyy hmy
            obtain ⟨yv, ye⟩ := y
            dsimp only at d0 d1 hly hfy hR1 hR2
            obtain ⟨Ay, ny, cy, rfl⟩ := labsV_sl hly
            have hbw := HBI.out.alloc hwi (.cells #[.slice Ay ny cy, .float .f64 ye.2] 43)
            have hsw : (wr.alloc (.cells #[.slice Ay ny cy, .float .f64 ye.2] 43)).heap.size = wr.heap.size + 1 := World.size_alloc _ _
            have HBW := Lib.hid hbw
            have HSW := Lib.hid hsw
            have HLY : Hid (∀ W, RowKit.Below w12.heap.size w12 W → LabsV W W.heap.size (.slice Ay ny cy) ye.1) := fun W hb => (hly.below hb).more hb.size
            have HC1 := Lib.hid (HHP.out _ (.slice Ay ny cy) ye hbw (HLY.out _ hbw) hfy.1)
            rw [hR1] at HC1
            have HNB := Lib.hid (Blk.new wr 43 #[.slice Ay ny cy, .float .f64 ye.2])
            have HFY := Lib.hid hfy.1
            clear hbw hsw hly hfy hR1
            cases hq : holdsP la ye with
            | true =>
              have HQ := Lib.hid hq
              clear hq hR2
              go_wp2_with (first
                | ((with_reducible refine (Hid.out HC1).mono ?_)
                   rintro e w13 ⟨rfl, hb13⟩
                   have hnb13 := HNB.out.below hb13 (by rw [HSW.out]; omega)
                   have y0 := hnb13.cell 0
                   have y1 := hnb13.cell 1
                   have HB13 := Lib.hid (HBW.out.trans (hb13.mono HBW.out.size))
                   have HC2 := Lib.hid (HHL.out w13 (.slice Ay ny cy) ye HB13.out (HLY.out _ HB13.out) HFY.out)
                   rw [HQ.out] at HC2
                   clear hb13 hnb13)
                | ((with_reducible refine (Hid.out HC2).mono ?_)
                   rintro e w14 ⟨rfl, hb14⟩
                   have HB14 := Lib.hid (HB13.out.trans (hb14.mono HB13.out.size))
                   clear hb14))
              go_roundw
              case rel => exact ⟨j + 1, by omega, by go_num, HB14.out⟩
              case measure => simp [intOf]; omega
            | false =>
              have hw2 : worseQ la ye.2 false = false := by
                rcases hR2 with h | h
                · rw [h] at hq; cases hq
                · exact h
              have HQ := Lib.hid hq
              have HW2 := Lib.hid hw2
              clear hq hw2 hR2
              go_wp2_with (first
                | ((with_reducible refine (Hid.out HC1).mono ?_)
                   rintro e w13 ⟨rfl, hb13⟩
                   have hnb13 := HNB.out.below hb13 (by rw [HSW.out]; omega)
                   have y0 := hnb13.cell 0
                   have y1 := hnb13.cell 1
                   have HB13 := Lib.hid (HBW.out.trans (hb13.mono HBW.out.size))
                   have HC2 := Lib.hid (HHL.out w13 (.slice Ay ny cy) ye HB13.out (HLY.out _ HB13.out) HFY.out)
                   rw [HQ.out] at HC2
                   have HNB13 := Lib.hid hnb13
                   clear hb13 hnb13)
                | ((with_reducible refine (Hid.out HC2).mono ?_)
                   rintro e w14 ⟨rfl, hb14⟩
                   have hnb14 := HNB13.out.below hb14 HNB13.out.lt
                   have x0 := hnb14.cell 0
                   have x1 := hnb14.cell 1
                   have HB14 := Lib.hid (HB13.out.trans (hb14.mono HB13.out.size))
                   have HC3 := Lib.hid (HWL.out w14 (.slice Ay ny cy) ye.2 HB14.out ⟨_, _, _, rfl⟩)
                   rw [HW2.out] at HC3
                   clear hb14 hnb14)
                | ((with_reducible refine (Hid.out HC3).mono ?_)
                   rintro e w15 ⟨rfl, hb15⟩
                   have HB15 := Lib.hid (HB14.out.trans (hb15.mono HB14.out.size))
                   clear hb15))
              go_roundw
              case rel => exact ⟨j + 1, by omega, by go_num, HB15.out⟩
              case measure => simp [intOf]; omega
          · obtain rfl : j = ta.length := by omega
            go_wp2_with fail
            have HBI1 := Lib.hid HBI.out
            clear HBI
            go_loopw [142] (fun jv wi => ∃ j : Nat, j ≤ pa.length ∧ jv = .int .i64 j ∧ Hid (RowKit.Below w12.heap.size w12 wi)) (fun jv _ => pa.length - (intOf jv).toNat)
            case atStart => exact ⟨0, by omega, by go_num, HBI1.out⟩
            case round =>
              obtain ⟨j, hj, rfl, HBI⟩ := hrel
              have hwi := HBI.out.size
              by_cases hjl : j < pa.length
              · obtain ⟨b2, off2, rfl, hbl2, hcc2⟩ := HRP.out.at_ hjl
                have hy := cellsE_get pa j hjl
                have hly := HLP.out pa[j] (List.getElem_mem _)
                have hmy := mals.out pa[j] (List.getElem_mem _)
                have hfy := HFP.out _ hmy
                have hR1 := HRF.out.all_a pa[j] (List.getElem_mem _)
                have hR2 := HRF.out.all_b pa[j] (List.getElem_mem _)
                have d0 := (HBI.out.cell (p := ⟨b2, off2 + j * 2, none⟩) hbl2).trans (hcc2 _ _ hy.1)
                have d1 := (HBI.out.cell (p := ⟨b2, off2 + j * 2 + 1, none⟩) hbl2).trans (hcc2 _ _ hy.2)
                obtain ⟨y, hyy⟩ : ∃ y, pa[j] = y := ⟨_, rfl⟩
                rw [hyy] at d0 d1 hly hfy hR1 hR2
                clear hy hcc2 hyy hmy
                obtain ⟨yv, ye⟩ := y
                dsimp only at d0 d1 hly hfy hR1 hR2
                obtain ⟨Ay, ny, cy, rfl⟩ := labsV_sl hly
                have HB20 := Lib.hid (HBI.out.alloc hwi (.cells #[.slice Ay ny cy, .float .f64 ye.2] 43))
                have HNB20 := Lib.hid (Blk.new wr 43 #[.slice Ay ny cy, .float .f64 ye.2])
                have HCA : Hid (∀ W, RowKit.Below w12.heap.size w12 W → Calls Tryz.prog 21 #[.slice A11 ta.length c11, .agg #[.slice Ay ny cy, .float .f64 ye.2]] W fun e w' => e = .returned (.bool (holdsP ta ye)) ∧ RowKit.Below W.heap.size W w') :=
                  fun W hb => HHA.out W (.slice Ay ny cy) ye hb ((hly.below hb).more hb.size) hfy.1
                have HCL : Hid (∀ W, RowKit.Below w12.heap.size w12 W → Calls Tryz.prog 21 #[.slice A12 la.length c12, .agg #[.slice Ay ny cy, .float .f64 ye.2]] W fun e w' => e = .returned (.bool (holdsP la ye)) ∧ RowKit.Below W.heap.size W w') :=
                  fun W hb => HHL.out W (.slice Ay ny cy) ye hb ((hly.below hb).more hb.size) hfy.1
                have HWAA : Hid (∀ W, RowKit.Below w12.heap.size w12 W → Calls Tryz.prog 22 #[.slice A11 ta.length c11, .agg #[.slice Ay ny cy, .float .f64 ye.2], .bool true] W fun e w' => e = .returned (.bool (worseQ ta ye.2 true)) ∧ RowKit.Below W.heap.size W w') :=
                  fun W hb => HWA.out W (.slice Ay ny cy) ye.2 hb ⟨_, _, _, rfl⟩
                have HWLL : Hid (∀ W, RowKit.Below w12.heap.size w12 W → Calls Tryz.prog 22 #[.slice A12 la.length c12, .agg #[.slice Ay ny cy, .float .f64 ye.2], .bool false] W fun e w' => e = .returned (.bool (worseQ la ye.2 false)) ∧ RowKit.Below W.heap.size W w') :=
                  fun W hb => HWL.out W (.slice Ay ny cy) ye.2 hb ⟨_, _, _, rfl⟩
                clear hly hfy
                cases hqa : holdsP ta ye with
              | true =>
                rw [hqa] at HCA
                cases hql : holdsP la ye with
                | true =>
                  rw [hql] at HCL
                  clear hqa hql hR1 hR2
                  go_wp2_with (first
                    | ((with_reducible refine (HCA.out _ HB20.out).mono ?_)
                       rintro e w21 ⟨rfl, hb21⟩
                       have hnb21 := HNB20.out.below hb21 HNB20.out.lt
                       have x21 := hnb21.cell 0
                       have y21 := hnb21.cell 1
                       have HB21 := Lib.hid (HB20.out.trans (hb21.mono HB20.out.size))
                       have HNB21 := Lib.hid hnb21
                       clear hb21 hnb21)
                    | ((with_reducible refine (HCL.out _ HB21.out).mono ?_)
                       rintro e w22 ⟨rfl, hb22⟩
                       have hnb22 := HNB21.out.below hb22 HNB21.out.lt
                       have x22 := hnb22.cell 0
                       have y22 := hnb22.cell 1
                       have HB22 := Lib.hid (HB21.out.trans (hb22.mono HB21.out.size))
                       have HNB22 := Lib.hid hnb22
                       clear hb22 hnb22))
                  go_roundw
                  case rel => exact ⟨j + 1, by omega, by go_num, HB22.out⟩
                  case measure => simp [intOf]; omega
                | false =>
                  have hwl : worseQ la ye.2 false = false := by
                    rcases hR2 with h | h
                    · rw [h] at hql; cases hql
                    · exact h
                  rw [hql] at HCL
                  rw [hwl] at HWLL
                  clear hqa hql hR1 hR2 hwl
                  go_wp2_with (first
                    | ((with_reducible refine (HCA.out _ HB20.out).mono ?_)
                       rintro e w21 ⟨rfl, hb21⟩
                       have hnb21 := HNB20.out.below hb21 HNB20.out.lt
                       have x21 := hnb21.cell 0
                       have y21 := hnb21.cell 1
                       have HB21 := Lib.hid (HB20.out.trans (hb21.mono HB20.out.size))
                       have HNB21 := Lib.hid hnb21
                       clear hb21 hnb21)
                    | ((with_reducible refine (HCL.out _ HB21.out).mono ?_)
                       rintro e w22 ⟨rfl, hb22⟩
                       have hnb22 := HNB21.out.below hb22 HNB21.out.lt
                       have x22 := hnb22.cell 0
                       have y22 := hnb22.cell 1
                       have HB22 := Lib.hid (HB21.out.trans (hb22.mono HB21.out.size))
                       have HNB22 := Lib.hid hnb22
                       clear hb22 hnb22)
                    | ((with_reducible refine (HWLL.out _ HB22.out).mono ?_)
                       rintro e w23 ⟨rfl, hb23⟩
                       have hnb23 := HNB22.out.below hb23 HNB22.out.lt
                       have x23 := hnb23.cell 0
                       have y23 := hnb23.cell 1
                       have HB23 := Lib.hid (HB22.out.trans (hb23.mono HB22.out.size))
                       have HNB23 := Lib.hid hnb23
                       clear hb23 hnb23))
                  go_roundw
                  case rel => exact ⟨j + 1, by omega, by go_num, HB23.out⟩
                  case measure => simp [intOf]; omega
              | false =>
                have hwa : worseQ ta ye.2 true = false := by
                  rcases hR1 with h | h
                  · rw [h] at hqa; cases hqa
                  · exact h
                rw [hqa] at HCA
                rw [hwa] at HWAA
                cases hql : holdsP la ye with
                | true =>
                  rw [hql] at HCL
                  clear hqa hql hR1 hR2 hwa
                  go_wp2_with (first
                    | ((with_reducible refine (HCA.out _ HB20.out).mono ?_)
                       rintro e w21 ⟨rfl, hb21⟩
                       have hnb21 := HNB20.out.below hb21 HNB20.out.lt
                       have x21 := hnb21.cell 0
                       have y21 := hnb21.cell 1
                       have HB21 := Lib.hid (HB20.out.trans (hb21.mono HB20.out.size))
                       have HNB21 := Lib.hid hnb21
                       clear hb21 hnb21)
                    | ((with_reducible refine (HWAA.out _ HB21.out).mono ?_)
                       rintro e w22 ⟨rfl, hb22⟩
                       have hnb22 := HNB21.out.below hb22 HNB21.out.lt
                       have x22 := hnb22.cell 0
                       have y22 := hnb22.cell 1
                       have HB22 := Lib.hid (HB21.out.trans (hb22.mono HB21.out.size))
                       have HNB22 := Lib.hid hnb22
                       clear hb22 hnb22)
                    | ((with_reducible refine (HCL.out _ HB22.out).mono ?_)
                       rintro e w23 ⟨rfl, hb23⟩
                       have hnb23 := HNB22.out.below hb23 HNB22.out.lt
                       have x23 := hnb23.cell 0
                       have y23 := hnb23.cell 1
                       have HB23 := Lib.hid (HB22.out.trans (hb23.mono HB22.out.size))
                       have HNB23 := Lib.hid hnb23
                       clear hb23 hnb23))
                  go_roundw
                  case rel => exact ⟨j + 1, by omega, by go_num, HB23.out⟩
                  case measure => simp [intOf]; omega
                | false =>
                  have hwl : worseQ la ye.2 false = false := by
                    rcases hR2 with h | h
                    · rw [h] at hql; cases hql
                    · exact h
                  rw [hql] at HCL
                  rw [hwl] at HWLL
                  clear hqa hql hR1 hR2 hwa hwl
                  go_wp2_with (first
                    | ((with_reducible refine (HCA.out _ HB20.out).mono ?_)
                       rintro e w21 ⟨rfl, hb21⟩
                       have hnb21 := HNB20.out.below hb21 HNB20.out.lt
                       have x21 := hnb21.cell 0
                       have y21 := hnb21.cell 1
                       have HB21 := Lib.hid (HB20.out.trans (hb21.mono HB20.out.size))
                       have HNB21 := Lib.hid hnb21
                       clear hb21 hnb21)
                    | ((with_reducible refine (HWAA.out _ HB21.out).mono ?_)
                       rintro e w22 ⟨rfl, hb22⟩
                       have hnb22 := HNB21.out.below hb22 HNB21.out.lt
                       have x22 := hnb22.cell 0
                       have y22 := hnb22.cell 1
                       have HB22 := Lib.hid (HB21.out.trans (hb22.mono HB21.out.size))
                       have HNB22 := Lib.hid hnb22
                       clear hb22 hnb22)
                    | ((with_reducible refine (HCL.out _ HB22.out).mono ?_)
                       rintro e w23 ⟨rfl, hb23⟩
                       have hnb23 := HNB22.out.below hb23 HNB22.out.lt
                       have x23 := hnb23.cell 0
                       have y23 := hnb23.cell 1
                       have HB23 := Lib.hid (HB22.out.trans (hb23.mono HB22.out.size))
                       have HNB23 := Lib.hid hnb23
                       clear hb23 hnb23)
                    | ((with_reducible refine (HWLL.out _ HB23.out).mono ?_)
                       rintro e w24 ⟨rfl, hb24⟩
                       have hnb24 := HNB23.out.below hb24 HNB23.out.lt
                       have x24 := hnb24.cell 0
                       have y24 := hnb24.cell 1
                       have HB24 := Lib.hid (HB23.out.trans (hb24.mono HB23.out.size))
                       have HNB24 := Lib.hid hnb24
                       clear hb24 hnb24))
                  go_roundw
                  case rel => exact ⟨j + 1, by omega, by go_num, HB24.out⟩
                  case measure => simp [intOf]; omega
              · obtain rfl : j = pa.length := by omega
                go_wp2_with fail
                go_roundw
                case rel => exact ⟨i + 1, by omega, by go_num, by rw [HNS1.out]; go_num, HB12.out.trans (HBI.out.mono HB12.out.size)⟩
                case measure => simp [intOf]; omega
      · obtain rfl : i = vsG.length := by omega
        have hend : ((nsum vsG.length : Int) == (vsT.length : Int)) = true := by
          have h1 := HFACT.out.total
          rw [← HVG.out, List.map_map] at h1
          have h3 : (vsG.map fun x => (keptQ vsT x.2.1 names wo).length).sum = T.length := by
            rw [← h1]
            congr 1
            apply List.map_congr_left
            intro x hx
            have := congrArg List.length (keptQ_map vsT x.2.1 names wo)
            rw [List.length_map, HVT.out] at this
            exact this
          have h4 := congrArg List.length HVT.out
          rw [List.length_map] at h4
          have h5 := HNS.out vsG.length
          rw [List.take_length] at h5
          rw [beq_iff_eq]; omega
        go_wp2_with fail
        go_ret
        exact ⟨rfl, HB9.out.trans (HBR.out.mono HB9.out.size)⟩
end Go.Proofs.YtefdoineacfbhaaGreatDoor
