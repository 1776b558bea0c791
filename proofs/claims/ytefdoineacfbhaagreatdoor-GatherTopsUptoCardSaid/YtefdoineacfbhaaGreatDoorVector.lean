/- What labels.Vector computes. -/
import Derived.Test.YtefdoineacfbhaaGreatDoorVecSort
import Derived.Laws.Entries
namespace Go.Proofs.YtefdoineacfbhaaGreatDoor
open Go Go.Proofs Go.Shelf Go.RowKit Go.Lib Go.Sort

theorem run_store_float (P : Program) (w : World) (a : Addr) (m : Mode) (k : FloatKind) (b : Nat) : (store a (.float k b) m).run P w = stored P w a (.float k b) m := run_store P w a _ m rfl
attribute [local go_sem] run_store_float

theorem own_form {w : World} {base size n : Nat} {e : TypeId} {v : Value} {xs : List Value} (h : w.ownsRow base e size v n xs) : ∃ A c, v = .slice A n c := by
  rcases h.2 with ⟨rfl, rfl⟩ | ⟨g, cap, cur, rfl, _⟩ <;> exact ⟨_, _, rfl⟩

theorem own_mono {w : World} {base base' size n : Nat} {e : TypeId} {v : Value} {xs : List Value} (h : w.ownsRow base e size v n xs) (hb : base' ≤ base) : w.ownsRow base' e size v n xs := by
  obtain ⟨h1, h2 | ⟨g, cap, cur, e1, e2, r⟩⟩ := h
  · exact ⟨h1, .inl h2⟩
  · exact ⟨h1, .inr ⟨g, cap, cur, e1, by omega, r⟩⟩
theorem own_kept_above {w w' : World} {B base size n : Nat} {e : TypeId} {v : Value} {xs : List Value} (h : w.ownsRow base e size v n xs) (hg : w.grownBy w' (some B)) (hB : B < base) : w'.ownsRow base e size v n xs :=
  h.kept hg (by
    cases hv : v.ownBlock with
    | none => exact .inl rfl
    | some k => exact .inr (fun e => by have := (h.lt k hv).1; injection e with e; omega))

/-- Do two neighbours have the same labels? -/
def adjDup : List El → Bool
  | a :: b :: r => decide (cmpLs a.1 b.1 = 0) || adjDup (b :: r)
  | _ => false
theorem adjDup_one (l : List El) : adjDup (l.take 1) = false := by
  cases l with
  | nil => rfl
  | cons a l => rfl
theorem adjDup_snoc : ∀ (l : List El) (a b : El), adjDup (l ++ [a, b]) = (adjDup (l ++ [a]) || decide (cmpLs a.1 b.1 = 0))
  | [], a, b => by simp [adjDup]
  | [x], a, b => by simp [adjDup]
  | x :: y :: r, a, b => by
    have := adjDup_snoc (y :: r) a b
    simp only [List.cons_append, adjDup] at *
    rw [this, Bool.or_assoc]
theorem adjDup_append : ∀ (a b : List El), adjDup a = true → adjDup (a ++ b) = true
  | [], _, h => by simp [adjDup] at h
  | [x], _, h => by simp [adjDup] at h
  | x :: y :: r, b, h => by
    simp only [List.cons_append, adjDup, Bool.or_eq_true] at *
    rcases h with h | h
    · exact .inl h
    · exact .inr (adjDup_append (y :: r) b h)
theorem adjDup_take (k : Nat) (l : List El) (h : adjDup (l.take k) = true) : adjDup l = true := by
  have := adjDup_append (l.take k) (l.drop k) h
  rwa [List.take_append_drop] at this
/-- The vector in canonical order, if it is one. -/
def vectorP (es : List El) : Option (List El) :=
  if es.all (fun x => labelsValid x.1) then (if adjDup (isort ltE es) then none else some (isort ltE es)) else none

/-- The labels' rows of the elements lie apart. -/
def Apart (vs : List (Value × El)) : Prop := vs.Pairwise fun x y => ∀ g, x.1.ownBlock = some g → y.1.ownBlock ≠ some g

/-- A vector of the call's own: its row, its labels' rows. -/
def OwnVec (w' : World) (B : Nat) (v : Value) (es : List El) : Prop :=
  ∃ vs : List (Value × El), vs.map (·.2) = es ∧ w'.ownsRow B 43 2 v vs.length (cellsE vs) ∧ (∀ x ∈ vs, w'.ownsRow B 46 2 x.1 x.2.1.length (cellsL x.2.1)) ∧ Apart vs
theorem OwnVec.vecV {w' : World} {B : Nat} {v : Value} {es : List El} (h : OwnVec w' B v es) : VecV w' w'.heap.size v es := by
  obtain ⟨vs, hm, ho, hl, _⟩ := h
  rcases id ho.2 with ⟨rfl, hn⟩ | ⟨g, cap, cur, rfl, _, _, hc, _⟩
  · exact ⟨none, 0, 0, vs, rfl, by rw [← hn]; exact Reads.of_own (c := 0) (by rw [hn]; rw [hn] at ho; exact ho), hm, fun x hx => LabsV.of_own (hl x hx), Nat.le_refl _, fun _ => rfl⟩
  · exact ⟨_, _, _, vs, rfl, Reads.of_own ho, hm, fun x hx => LabsV.of_own (hl x hx), hc, fun h => by cases h⟩

theorem apart_perm {a b : List (Value × El)} (h : a.Perm b) (hb : Apart b) : Apart a := by
  have hsym : ∀ {x y : Value × El}, (∀ g, x.1.ownBlock = some g → y.1.ownBlock ≠ some g) → (∀ g, y.1.ownBlock = some g → x.1.ownBlock ≠ some g) := fun h g h1 h2 => h g h2 h1
  exact (h.pairwise_iff hsym).2 hb

/-- What Vector answers. -/
def VecRes (w : World) (r : Option (List El)) (e : Ending) (w' : World) : Prop :=
  Below w.heap.size w w' ∧ match r with
  | none => e = .returned (.tuple #[.slice none 0 0, .int .i64 5])
  | some out => ∃ v, e = .returned (.tuple #[v, .int .i64 0]) ∧ OwnVec w' w.heap.size v out
theorem VecRes.bad {w w' : World} {e : Ending} {r : Option (List El)} (h : r = none) (he : e = .returned (.tuple #[.slice none 0 0, .int .i64 5])) (hb : Below w.heap.size w w') : VecRes w r e w' := by
  subst h; exact ⟨hb, he⟩

theorem infoElem : (Tryz.prog.info? 43).map (fun i => (i.zero, i.size, i.bytes)) = some (some (.agg #[.slice none 0 0, .float .f64 0]), 2, 32) := by kernel_rfl

theorem vectorP_bad {es : List El} {k : Nat} (h : k < es.length) (hv : labelsValid es[k].1 = false) : vectorP es = none := by
  unfold vectorP
  rw [if_neg]
  intro hall
  rw [List.all_eq_true] at hall
  rw [hall es[k] (List.getElem_mem h)] at hv
  cases hv

set_option maxHeartbeats 2000000 in
set_option maxRecDepth 100000 in
theorem vector_any (v : Value) (es : List El) (w : World) (h : VecV w w.heap.size v es) (hf : FineE es) : Calls Tryz.prog 15 #[v] w (VecRes w (vectorP es)) := by
  obtain ⟨i0, hi, hz0, hz1, hz2⟩ := info_parts infoElem
  obtain ⟨A, n, c, vs0, rfl, hr, hm, hlab, hnc, hA⟩ := h
  have hl0 : vs0.length = n := by have := hr.1; rw [cellsE_length] at this; omega
  have hle : es.length = n := by rw [← hm]; simpa using hl0
  have hn : n ≤ 1048576 := by rw [← hle]; exact hf.1
  have HR := Lib.hid hr
  have HM := Lib.hid hm
  have HLAB := Lib.hid hlab
  have HF := Lib.hid hf
  have HL0 := Lib.hid hl0
  have HLE := Lib.hid hle
  clear hr hm hlab hf hl0 hle hA
  go_enter Tryz.func15, Tryz.ntmps15
  go_wp2_with (refine wpList_make_own _ rfl _ _ _ rfl w.heap.size 43 i0 _ 2 Tryz.underlying28 hi hz0 hz1 _ _ _ n rfl rfl rfl (by rw [hz2]; omega) (by unfold maxLen; omega) (Nat.le_refl _) ?_; intro w1 hown1 hg1)
  have HB1 : Below w.heap.size w w1 := (Below.refl _ _).grown hg1 (Nat.le_refl _) (by simp)
  have HSZ1 : w.heap.size + 1 ≤ w1.heap.size := by have h2 : w.heap.size < w1.heap.size := (hown1.lt _ rfl).2; omega
  go_loopw [4, 13] (fun vo i wr => ∃ (k : Nat) (vs : List (Value × El)), k ≤ n ∧ i = .int .i64 k ∧ vo = .slice (some ⟨w.heap.size, 0, none⟩) k n ∧
      Hid (vs.length = k ∧ vs.map (·.2) = es.take k ∧ ∀ x ∈ es.take k, labelsValid x.1 = true) ∧ wr.ownsRow w.heap.size 43 2 (.slice (some ⟨w.heap.size, 0, none⟩) k n) k (cellsE vs) ∧
      Hid ((∀ x ∈ vs, wr.ownsRow (w.heap.size + 1) 46 2 x.1 x.2.1.length (cellsL x.2.1)) ∧ Apart vs) ∧ Below w.heap.size w wr ∧ w.heap.size + 1 ≤ wr.heap.size) (fun _ i _ => n - (intOf i).toNat)
  case atStart => exact ⟨0, [], by omega, by go_num, rfl, ⟨rfl, rfl, fun x hx => by cases hx⟩, hown1, ⟨fun x hx => (by cases hx), List.Pairwise.nil⟩, HB1, HSZ1⟩
  case round =>
    clear hown1 hg1 HB1 HSZ1
    obtain ⟨k, vs, hk, rfl, rfl, HV, hown, HLR, hb, hszr⟩ := hrel
    by_cases hlt : k < n
    · obtain ⟨b, off, rfl, hbl, hc⟩ := HR.out.at_ hlt
      have hk0 : k < vs0.length := by have := HL0.out; omega
      have hke : k < es.length := by have := HLE.out; omega
      have hx := cellsE_get vs0 k hk0
      have hx2 : vs0[k].2 = es[k] := by have := HM.out; subst this; simp
      have hlk := HLAB.out vs0[k] (List.getElem_mem _)
      have hfk := HF.out.2 es[k] (List.getElem_mem _)
      rw [hx2] at hx hlk
      have c0 := (hb.cell (p := ⟨b, off + k * 2, none⟩) hbl).trans (hc _ _ hx.1)
      have c1 := (hb.cell (p := ⟨b, off + k * 2 + 1, none⟩) hbl).trans (hc _ _ hx.2)
      obtain ⟨xv, hxv⟩ : ∃ x, vs0[k].1 = x := ⟨_, rfl⟩
      rw [hxv] at c0 hlk
      obtain ⟨xe, hxe⟩ : ∃ x, es[k] = x := ⟨_, rfl⟩
      rw [hxe] at c1 hlk hfk
      have HXE : Hid (es[k] = xe) := hxe
      clear hxv hx hx2 hc hxe
      obtain ⟨A', m, c', rfl, hrl, hmc, hA'⟩ := id hlk
      have hml : xe.1.length = m := by have := hrl.1; rw [cellsL_length] at this; omega
      have hbr := hb.mono (B' := w.heap.size) (Nat.le_refl _)
      have HVAL : Hid (∀ W, Below w.heap.size w W → Calls Tryz.prog 36 #[.slice A' m c'] W fun e w' => e = .returned (.bool (labelsValid xe.1)) ∧ Below W.heap.size W w') := fun W hW =>
        labelsValid_any A' m c' xe.1 W ((hrl.below hW).more hW.size) (by rw [← hml]; exact hfk.1) hfk.2
      have HCL : Hid (∀ W, Below w.heap.size w W → Calls Tryz.prog 37 #[.slice A' m c'] W (OwnRes W 46 2 xe.1.length (cellsL xe.1))) := fun W hW =>
        cloneL_any _ xe.1 W ((hlk.below hW).more hW.size) hfk.1
      have hba := hb.alloc hb.size (.cells #[.slice A' m c', .float .f64 xe.2] 43)
      have HBA := Lib.hid hba
      clear hba hlk hrl hmc hA' hml hbr hfk
      cases hval : labelsValid xe.1 with
      | false =>
        have HBAD : Hid (vectorP es = none) := vectorP_bad hke (by rw [HXE.out]; exact hval)
        rw [hval] at HVAL
        clear hval
        go_wp2_with (go_at_call 36; refine (HVAL.out _ HBA.out).mono ?_; rintro e w2 ⟨rfl, hb2⟩)
        go_ret2
        exact VecRes.bad HBAD.out rfl (HBA.out.trans (hb2.mono (by simp; omega)))
      | true =>
        rw [hval] at HVAL
        have HVL := Lib.hid hval
        clear hval
        go_wp2_with (go_at_call 36; refine (HVAL.out _ HBA.out).mono ?_; rintro e w2 ⟨rfl, hb2⟩)
        have hbw2 : wr.heap.size + 1 ≤ w2.heap.size := by have := hb2.size; simp at this; omega
        have d0 : w2.cell? ⟨wr.heap.size, 0, none⟩ = some (.slice A' m c') := by rw [hb2.cell (p := ⟨wr.heap.size, 0, none⟩) (by simp)]; simp
        have d1 : w2.cell? ⟨wr.heap.size, 1, none⟩ = some (.float .f64 xe.2) := by rw [hb2.cell (p := ⟨wr.heap.size, 1, none⟩) (by simp)]; simp
        have HB2 : Hid (Below w.heap.size w w2.drew) := (HBA.out.trans (hb2.mono (by simp; omega))).drew
        have HOW2 : Hid (w2.drew.ownsRow w.heap.size 43 2 (.slice (some ⟨w.heap.size, 0, none⟩) k n) k (cellsE vs)) := (own_below (hown.alloc _) hb2).drew
        have HLR2 : Hid (∀ x ∈ vs, w2.drew.ownsRow (w.heap.size + 1) 46 2 x.1 x.2.1.length (cellsL x.2.1)) := fun x hx => (own_below ((HLR.out.1 x hx).alloc _) hb2).drew
        have HAP : Hid (Apart vs) := HLR.out.2
        clear hb2 hown HLR HVAL
        go_region_held3 (fun W => W.cell? ⟨wr.heap.size, 0, none⟩ = some (.slice A' m c') ∧ W.cell? ⟨wr.heap.size, 1, none⟩ = some (.float .f64 xe.2))
          (first
            | go_keep
            | (go_split_ands
               refine ⟨?_, ?_⟩
               · exact (hb3.cell (p := ⟨wr.heap.size, 0, none⟩) (by show wr.heap.size < w2.heap.size; omega)).trans d0
               · exact (hb3.cell (p := ⟨wr.heap.size, 1, none⟩) (by show wr.heap.size < w2.heap.size; omega)).trans d1)
            | (go_split_ands
               have hs3 : w2.heap.size ≤ w3.heap.size := hb3.size
               refine ⟨?_, ?_⟩
               · exact hg4.cell ((World.cell?_alloc_lt _ _ ⟨wr.heap.size, 0, none⟩ (by show wr.heap.size < w3.heap.size; omega)).trans ((hb3.cell (p := ⟨wr.heap.size, 0, none⟩) (by show wr.heap.size < w2.heap.size; omega)).trans d0)) (by simp; omega)
               · exact hg4.cell ((World.cell?_alloc_lt _ _ ⟨wr.heap.size, 1, none⟩ (by show wr.heap.size < w3.heap.size; omega)).trans ((hb3.cell (p := ⟨wr.heap.size, 1, none⟩) (by show wr.heap.size < w2.heap.size; omega)).trans d1)) (by simp; omega)))
          (first
            | (go_at_call 37
               refine (HCL.out _ HB2.out).mono ?_
               rintro e w3 ⟨xv', rfl, hown3, hb3⟩
               obtain ⟨A3, c3, rfl⟩ := own_form hown3)
            | (refine step_append_fits _ (by rfl) _ _ _ (by rfl) w.heap.size 43 i0 2 Tryz.underlying28 hi hz1 w.heap.size k n (cellsE vs) (by rfl) ((own_below HOW2.out hb3).alloc _) ⟨w3.heap.size, 0, none⟩ 1 1 [.slice A3 xe.1.length c3, .float .f64 xe.2] (by rfl) (by rfl) (new_cells _ _ _ _ rfl) (by simp [Value.oneCell']) (by omega) ?_
               intro w4 hown4 hg4))
        go_wp2
        have hs3 : w2.heap.size ≤ w3.heap.size := hb3.size
        have hs4 : w3.heap.size + 1 ≤ w4.heap.size := by have := hg4.size; simp at this; omega
        go_roundw
        case rel =>
          refine ⟨k + 1, vs ++ [(.slice A3 xe.1.length c3, xe)], by omega, by go_num, rfl, ⟨by simp [HV.out.1], ?_, ?_⟩, by rw [cellsE_append]; exact hown4, ⟨?_, ?_⟩, ?_, by omega⟩
          · rw [List.map_append, HV.out.2.1, List.take_succ_eq_append_getElem hke, HXE.out]; rfl
          · intro x hx
            rw [List.take_succ_eq_append_getElem hke, HXE.out] at hx
            rcases List.mem_append.1 hx with hx | hx
            · exact HV.out.2.2 x hx
            · obtain rfl : x = xe := by simpa using hx
              exact HVL.out
          · intro x hx
            rcases List.mem_append.1 hx with hx | hx
            · exact own_kept_above ((own_below (HLR2.out x hx) hb3).alloc _) hg4 (by omega)
            · obtain rfl : x = (.slice A3 xe.1.length c3, xe) := by simpa using hx
              exact own_kept_above ((own_mono hown3 (by show w.heap.size + 1 ≤ w2.heap.size; omega)).alloc _) hg4 (by omega)
          · refine List.pairwise_append.2 ⟨HAP.out, List.pairwise_singleton _ _, fun x hx y hy g hg1 hg2 => ?_⟩
            obtain rfl : y = (.slice A3 xe.1.length c3, xe) := by simpa using hy
            have h1 := ((HLR2.out x hx).lt g hg1).2
            have h2 := (hown3.lt g hg2).1
            have h3 : g < w2.heap.size := h1
            have h4 : w2.heap.size ≤ g := h2
            omega
          · exact ((HB2.out.trans (hb3.mono (by show w.heap.size ≤ w2.heap.size; omega))).alloc (by omega) _).grown hg4 (by simp; omega) (by intro q hq; injection hq with hq; omega)
        case measure => simp [intOf]; omega
    · obtain rfl : k = n := by omega
      have hall : Hid (es.all (fun x => labelsValid x.1) = true) := by
        show _ = _
        rw [List.all_eq_true]
        intro x hx
        exact HV.out.2.2 x (by rw [List.take_of_length_le (by have := HLE.out; omega)]; exact hx)
      have HMAP : Hid (vs.map (·.2) = es) := by show _ = _; rw [HV.out.2.1, List.take_of_length_le (by have := HLE.out; omega)]
      have HLV : Hid (vs.length = k) := HV.out.1
      obtain ⟨ss, hss⟩ : ∃ ss, isort (ltOf cmpE) vs = ss := ⟨_, rfl⟩
      have hgood : ∀ x ∈ vs, GoodE wr w.heap.size x := fun x hx => ⟨LabsV.of_own (HLR.out.1 x hx), fun e => by have := ((HLR.out.1 x hx).lt _ e).1; omega, by
        have hm := HMAP.out
        have : x.2 ∈ es := by rw [← hm]; exact List.mem_map_of_mem hx
        exact (HF.out.2 _ this).1⟩
      have HSORT := Lib.hid (sortVec w.heap.size k k w.heap.size vs wr hown HLV.out hgood (by omega))
      rw [hss] at HSORT
      have hperm : ss.Perm vs := by rw [← hss]; exact isort_perm vs
      have hmap2 : ss.map (·.2) = isort ltE es := by
        rw [← hss, isort_map (fun x : Value × El => x.2) (ltOf cmpE) ltE (fun x y => rfl), HMAP.out]
      have HSS : Hid (ss.Perm vs ∧ ss.map (·.2) = isort ltE es ∧ ss.length = k) := ⟨hperm, hmap2, by rw [hperm.length_eq]; exact HLV.out⟩
      have HLRs : Hid ((∀ x ∈ ss, wr.ownsRow (w.heap.size + 1) 46 2 x.1 x.2.1.length (cellsL x.2.1)) ∧ Apart ss) :=
        ⟨fun x hx => HLR.out.1 x (hperm.mem_iff.1 hx), apart_perm hperm HLR.out.2⟩
      have HFs : Hid (∀ x ∈ ss, x.2.1.length ≤ 1048576) := fun x hx => (hgood x (hperm.mem_iff.1 hx)).2.2
      clear hss hgood hperm hmap2 hown HLR
      go_wp2_with (go_at_call 38; refine (Hid.out HSORT).mono ?_; rintro e w2 ⟨rfl, hown2, hg2⟩)
      have hb2 : RowKit.Below w.heap.size w w2 := hb.grown hg2 hb.size (by intro q hq; injection hq with hq; omega)
      have hs2 : wr.heap.size ≤ w2.heap.size := hg2.size
      have HLR2 : Hid (∀ x ∈ ss, w2.ownsRow (w.heap.size + 1) 46 2 x.1 x.2.1.length (cellsL x.2.1)) := fun x hx => own_kept_above (HLRs.out.1 x hx) hg2 (by omega)
      clear hg2 hb
      go_loopw [7] (fun i wx => ∃ j : Nat, 1 ≤ j ∧ (j ≤ k ∨ j = 1) ∧ i = .int .i64 j ∧ Hid (adjDup ((isort ltE es).take j) = false) ∧ RowKit.Below w2.heap.size w2 wx) (fun i _ => k - (intOf i).toNat)
      case atStart => exact ⟨1, by omega, by omega, by go_num, adjDup_one _, Below.refl _ _⟩
      case round =>
        obtain ⟨j, hj1, hjk, rfl, HJ, hgx⟩ := hrel
        by_cases hjl : j < k
        · obtain ⟨p, rfl⟩ : ∃ p, j = p + 1 := ⟨j - 1, by omega⟩
          have hp0 : p < ss.length := by have := HSS.out.2.2; omega
          have hp1 : p + 1 < ss.length := by have := HSS.out.2.2; omega
          have hgb := hgx
          have hlt2 := (hown2.lt _ rfl).2
          have r0 := (hgx.cell (p := ⟨w.heap.size, p * 2, none⟩) hlt2).trans ((hown2.cellAt (p * 2) (by omega)).trans (cellsE_get ss p hp0).1)
          have r1 := (hgx.cell (p := ⟨w.heap.size, (p + 1) * 2, none⟩) hlt2).trans ((hown2.cellAt ((p + 1) * 2) (by omega)).trans (cellsE_get ss (p + 1) hp1).1)
          have hl0 := (LabsV.of_own (HLR2.out ss[p] (List.getElem_mem _))).below hgb
          have hl1 := (LabsV.of_own (HLR2.out ss[p + 1] (List.getElem_mem _))).below hgb
          have hf0 := HFs.out ss[p] (List.getElem_mem _)
          have hf1 := HFs.out ss[p + 1] (List.getElem_mem _)
          have hj2 : adjDup ((isort ltE es).take (p + 1 + 1)) = (adjDup ((isort ltE es).take (p + 1)) || decide (cmpLs ss[p].2.1 ss[p + 1].2.1 = 0)) := by
            have hm := HSS.out.2.1
            rw [← hm, List.take_succ_eq_append_getElem (show p + 1 < (ss.map (·.2)).length by simpa using hp1), List.take_succ_eq_append_getElem (show p < (ss.map (·.2)).length by simpa using hp0), List.append_assoc]
            have := adjDup_snoc ((ss.map (·.2)).take p) ((ss.map (·.2))[p]'(by simpa using hp0)) ((ss.map (·.2))[p + 1]'(by simpa using hp1))
            simpa using this
          rw [HJ.out, Bool.false_or] at hj2
          obtain ⟨x0, hx0⟩ : ∃ x, ss[p] = x := ⟨_, rfl⟩
          obtain ⟨x1, hx1⟩ : ∃ x, ss[p + 1] = x := ⟨_, rfl⟩
          rw [hx0] at r0 hl0 hf0 hj2
          rw [hx1] at r1 hl1 hf1 hj2
          obtain ⟨v0, e0⟩ := x0
          obtain ⟨v1, e1⟩ := x1
          dsimp only at r0 r1 hl0 hl1 hf0 hf1 hj2
          obtain ⟨A0, m0, c0, rfl, hr0, _, _⟩ := hl0
          obtain ⟨A1, m1, c1, rfl, hr1, _, _⟩ := hl1
          have hm0 : e0.1.length = m0 := by have := hr0.1; rw [cellsL_length] at this; omega
          have hm1 : e1.1.length = m1 := by have := hr1.1; rw [cellsL_length] at this; omega
          have cc : ∀ d os, Calls Tryz.prog 40 #[.slice A0 m0 c0, .slice A1 m1 c1] (grow (redrawn wr d) os) fun e w'' => e = .returned (.int .i64 (cmpLs e0.1 e1.1)) ∧ ∃ p : Regrown, w'' = grow (redrawn wr p.d) p.os := fun d os =>
            Calls.regrown_of ((compare_any A0 A1 m0 m1 c0 c1 e0.1 e1.1 _ ((hr0.below ((below_regrown wr d os).mono hgb.size)).more (by rw [size_grow]; have := hgb.size; show _ ≤ wr.heap.size + _; omega)) ((hr1.below ((below_regrown wr d os).mono hgb.size)).more (by rw [size_grow]; have := hgb.size; show _ ≤ wr.heap.size + _; omega)) (by omega) (by omega)).mono fun e w' ⟨he, hw⟩ => ⟨he, hw.below⟩)
          have k0 := cell_regrown r0
          have k1 := cell_regrown r1
          have HCC := Lib.hid cc
          have HJ2 := Lib.hid hj2
          have HGB := Lib.hid hgb
          have hw1 : IntKind.i64.wrap ((p : Int) + 1 - 1) = (p : Int) := by rw [IntKind.wrap_i64]; omega
          have hq0 : (0 : Int) ≤ (p : Int) := by omega
          have hq1 : (p : Int) < (k : Int) := by omega
          have hq2 : ((p : Int)).toNat = p := by omega
          have hq3 : (p : Int) + 1 < (k : Int) := by omega
          have hq4 : ((p : Int) + 1).toNat = p + 1 := by omega
          have hq5 : (0 : Int) ≤ (p : Int) + 1 := by omega
          clear r0 r1 hr0 hr1 hf0 hf1 hj2 cc hgx hgb hown2 hm0 hm1 hx0 hx1
          generalize cmpLs e0.1 e1.1 = cv at HCC HJ2
          cases hz : (cv == 0) with
          | true =>
            have HZ : Hid (vectorP es = none) := by
              show _ = _
              unfold vectorP
              rw [if_pos hall.out, if_pos]
              exact adjDup_take (p + 1 + 1) _ (by rw [HJ2.out]; simpa using hz)
            go_wp2_with fail
            refine wp_region_quiet_below (by kernel_rfl) (by kernel_rfl) ?_
            repeat (go_big_quiet_step ((go_at_call 40; exact HCC.out _ _)))
            refine wpQuiet_nil ?_
            intro _ hw'
            obtain ⟨⟨dq, osq⟩, hw''⟩ := hw'
            subst hw''
            go_wp2
            go_ret2
            exact VecRes.bad HZ.out rfl (hb2.trans ((HGB.out.trans ((below_regrown wr dq osq).mono HGB.out.size)).mono hb2.size))
          | false =>
            have HZ : Hid (adjDup ((isort ltE es).take (p + 1 + 1)) = false) := by
              show _ = _
              rw [HJ2.out]; simpa using hz
            go_wp2_with fail
            refine wp_region_quiet_below (by kernel_rfl) (by kernel_rfl) ?_
            repeat (go_big_quiet_step ((go_at_call 40; exact HCC.out _ _)))
            refine wpQuiet_nil ?_
            intro _ hw'
            obtain ⟨⟨dq, osq⟩, hw''⟩ := hw'
            subst hw''
            go_wp2
            go_roundw
            case rel => exact ⟨p + 1 + 1, by omega, by omega, by go_num, HZ.out, HGB.out.trans ((below_regrown wr dq osq).mono HGB.out.size)⟩
            case measure => simp [intOf]; omega
        · have HG : Hid (vectorP es = some (isort ltE es)) := by
            show _ = _
            unfold vectorP
            rw [if_pos hall.out, if_neg]
            have hjt := HJ.out
            rw [List.take_of_length_le (by have := HLE.out; rw [isort_length]; omega)] at hjt
            rw [hjt]; decide
          go_wp2_with fail
          go_ret2
          refine ⟨hb2.trans (hgx.mono hb2.size), ?_⟩
          rw [HG.out]
          exact ⟨_, rfl, ss, HSS.out.2.1, by rw [HSS.out.2.2]; exact own_below hown2 hgx, fun x hx => own_mono (own_below (HLR2.out x hx) hgx) (by omega), HLRs.out.2⟩
end Go.Proofs.YtefdoineacfbhaaGreatDoor
