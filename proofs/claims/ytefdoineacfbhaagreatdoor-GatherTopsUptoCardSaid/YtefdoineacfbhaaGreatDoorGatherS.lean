/- What gather.Gather computes where groups are summed up. -/
import Derived.Test.YtefdoineacfbhaaGreatDoorGatherW
namespace Go.Proofs.YtefdoineacfbhaaGreatDoor
open Go Go.Proofs Go.Shelf Go.RowKit Go.Lib Go.Sort

attribute [local go_sem] run_store_float

/-- What Gather answers: Out tells what is put together of the sorted vector. -/
def VecPart (w : World) (r : Option (List El)) (e : Ending) (w' : World) : Prop := match r with
  | none => e = .returned (.tuple #[.slice none 0 0, .int .i64 5])
  | some out => ∃ v, e = .returned (.tuple #[v, .int .i64 0]) ∧ OwnVec w' w.heap.size v out
def GatherRes (w : World) (es : List El) (Out : List El → List El → Prop) (e : Ending) (w' : World) : Prop :=
  RowKit.Below w.heap.size w w' ∧ match vectorP es with
  | none => e = .returned (.tuple #[.slice none 0 0, .int .i64 5])
  | some V => ∃ out, Out V out ∧ VecPart w (vectorP out) e w'
theorem GatherRes.bad {w w' : World} {es : List El} {Out : List El → List El → Prop} {e : Ending} (h : vectorP es = none) (he : e = .returned (.tuple #[.slice none 0 0, .int .i64 5])) (hb : RowKit.Below w.heap.size w w') : GatherRes w es Out e w' := by
  unfold GatherRes
  rw [h]
  exact ⟨hb, he⟩

theorem own_vec_below {w w' : World} {B : Nat} {v : Value} {es : List El} (h : OwnVec w B v es) (hb : RowKit.Below w.heap.size w w') : OwnVec w' B v es := by
  obtain ⟨vs, h1, h2, h3, h4⟩ := h
  exact ⟨vs, h1, own_below h2 hb, fun x hx => own_below (h3 x hx) hb, h4⟩

theorem own_vec_mono {w : World} {B B' : Nat} {v : Value} {es : List El} (h : OwnVec w B v es) (hb : B' ≤ B) : OwnVec w B' v es := by
  obtain ⟨vs, h1, h2, h3, h4⟩ := h
  exact ⟨vs, h1, own_mono h2 hb, fun x hx => own_mono (h3 x hx) hb, h4⟩

/-- The values of a group, summed up. -/
def SumOut (R : List Nat → Nat → Prop) (names : List ByteArray) (wo : Bool) (V out : List El) : Prop :=
  ∃ rs : List Nat, rs.length = (groupsE names wo V).length ∧ (∀ i (h1 : i < (groupsE names wo V).length) (h2 : i < rs.length), R ((groupsE names wo V)[i].2.map (·.2)) rs[i]) ∧
    out = ((groupsE names wo V).zip rs).map fun q => (q.1.1, q.2)

def AddOk (op : Agg) : Prop := ∀ (B B2 sb : Nat) (vals : List Nat) (v : Nat) (w : World), SumAt w B B2 op sb vals → vals.length < 2097152 → B2 ≤ w.heap.size →
  Calls Tryz.prog (addN op) #[.pointer (some ⟨sb, 0, none⟩), .float .f64 v] w (AddRes B B2 op sb (vals ++ [v]) w)
def AnsOk (op : Agg) (P : List Nat → Prop) (R : List Nat → Nat → Prop) : Prop := ∀ (B B2 sb : Nat) (vals : List Nat) (w : World), P vals → SumAt w B B2 op sb vals → vals.length ≤ 2097152 →
  Calls Tryz.prog (ansN op) #[.pointer (some ⟨sb, 0, none⟩)] w (AnsRes (R vals) w)

set_option maxHeartbeats 8000000 in
set_option maxRecDepth 100000 in
theorem gather_sum (op : Agg) (hk : kd op ≠ .none) (hop : op ≠ .values) (P : List Nat → Prop) (R : List Nat → Nat → Prop) (hadd : AddOk op) (hans : AnsOk op P R)
    (wo : Bool) (A' : Option Addr) (m c' : Nat) (names : List ByteArray) (param : Nat) (text : ByteArray) (hq : ∀ q, op = .quantile q → param = q) (v : Value) (es : List El) (w : World) (hP : ∀ V, vectorP es = some V → ∀ g ∈ groupsE names wo V, P (g.2.map (·.2)))
    (h : VecV w w.heap.size v es) (hf : FineE es) (hnm : Reads w w.heap.size 1 A' m (names.map .string)) (hm : m ≤ 1048576) (htab : PowTab w) :
    Calls Tryz.prog 11 #[.agg (gathV op wo (.slice A' m c') param text), v] w (GatherRes w es (SumOut R names wo)) := by
  have hbox := Blk.new w 27 (gathV op wo (.slice A' m c') param text)
  have hb1 : RowKit.Below w.heap.size w (w.alloc (.cells (gathV op wo (.slice A' m c') param text) 27)) := (Below.refl _ _).alloc (Nat.le_refl _) _
  have HVEC := Lib.hid (vector_any v es (w.alloc (.cells (gathV op wo (.slice A' m c') param text) 27)) ((h.below hb1).more (by simp)) hf)
  have HB1 := Lib.hid hb1
  have HBOX := Lib.hid hbox
  have HF := Lib.hid hf
  have HNM := Lib.hid hnm
  have HT := Lib.hid htab
  have h1 : ((opB op).toList == [116, 111, 112, 107]) = false := by cases op <;> first | exact absurd rfl hk | (rw [ByteArray.toList_eq]; rfl)
  have h2 : ((opB op).toList == [98, 111, 116, 116, 111, 109, 107]) = false := by cases op <;> first | exact absurd rfl hk | (rw [ByteArray.toList_eq]; rfl)
  have h3 : ((opB op).toList == [99, 111, 117, 110, 116, 95, 118, 97, 108, 117, 101, 115]) = false := by cases op <;> first | exact absurd rfl hop | (rw [ByteArray.toList_eq]; rfl)
  have HBG := Lib.hid (fun W => begun_any op wo A' m c' param text W hq)
  have HGR := Lib.hid (fun A n c vs W a1 a2 a3 a4 a5 a6 => grouped_any op wo A' m c' names param text A n c vs W a1 a2 a3 a4 a5 hm a6 hop hq)
  have HSI : Hid (∀ {w : World} {B : Nat} {sv : Value} {sb : Nat}, SumIs w B op sv sb → sv = .iface (ifT op) (.pointer (some ⟨sb, 0, none⟩))) := sumIs_iface hk
  have HAD := Lib.hid hadd
  have HAN := Lib.hid hans
  have HPP := Lib.hid hP
  obtain ⟨q1, q2, q3, q4, q5, q6, q7⟩ := ifaceOk op
  clear h hf hnm htab hbox hb1 hq hop hadd hans hP
  unfold gathV at HVEC HB1 HBOX HBG HGR ⊢
  generalize opB op = ob at h1 h2 h3 HVEC HB1 HBOX HBG HGR ⊢
  cases hv : vectorP es with
  | none =>
    rw [hv] at HVEC
    have HV := Lib.hid hv
    clear hv q1 q2 q3 q4 q5 q6 q7
    go_enter Tryz.func11, Tryz.ntmps11
    go_wp2_with (go_at_call 15; refine (Hid.out HVEC).mono ?_; rintro e w2 ⟨hb2, rfl⟩)
    go_ret2
    exact GatherRes.bad HV.out rfl (HB1.out.trans (hb2.mono (by simp)))
  | some V =>
    rw [hv] at HVEC
    have HV := Lib.hid hv
    clear hv
    go_enter Tryz.func11, Tryz.ntmps11
    go_upto_region 10 with (first
      | (go_at_call 15; refine (Hid.out HVEC).mono ?_; rintro e w2 ⟨hb2, v2, rfl, hov2⟩
         have HB2 := Lib.hid (HB1.out.trans (hb2.mono (by simp)))
         have hbox2 : Blk w2 w.heap.size 27 #[.string ob, .bool wo, .slice A' m c', .float .f64 param, .string text] := HBOX.out.below hb2 (by simp)
         have b0 : w2.cell? ⟨w.heap.size, 0, none⟩ = some (.string ob) := hbox2.cell 0
         have b1 : w2.cell? ⟨w.heap.size, 1, none⟩ = some (.bool wo) := hbox2.cell 1
         have b2 : w2.cell? ⟨w.heap.size, 2, none⟩ = some (.slice A' m c') := hbox2.cell 2
         have b3 : w2.cell? ⟨w.heap.size, 3, none⟩ = some (.float .f64 param) := hbox2.cell 3
         have b4 : w2.cell? ⟨w.heap.size, 4, none⟩ = some (.string text) := hbox2.cell 4
         have HOV2 := Lib.hid hov2
         have HBOX2 := Lib.hid hbox2
         clear hb2 hov2 hbox2)
      | (go_at_call 31; refine (HBG.out _).mono ?_; rintro e w3 ⟨sv, sb, rfl, hsum, hsb, hb3⟩
         obtain rfl := HSI.out hsum
         have hbox3 : Blk w3 w.heap.size 27 #[.string ob, .bool wo, .slice A' m c', .float .f64 param, .string text] := HBOX2.out.below hb3 HBOX2.out.lt
         have d0 : w3.cell? ⟨w.heap.size, 0, none⟩ = some (.string ob) := hbox3.cell 0
         have d1 : w3.cell? ⟨w.heap.size, 1, none⟩ = some (.bool wo) := hbox3.cell 1
         have d2 : w3.cell? ⟨w.heap.size, 2, none⟩ = some (.slice A' m c') := hbox3.cell 2
         have d3 : w3.cell? ⟨w.heap.size, 3, none⟩ = some (.float .f64 param) := hbox3.cell 3
         have d4 : w3.cell? ⟨w.heap.size, 4, none⟩ = some (.string text) := hbox3.cell 4
         have HBOX3 := Lib.hid hbox3
         have HB3 := Lib.hid (HB2.out.trans (hb3.mono HB2.out.size))
         have HOV3 := Lib.hid (own_vec_below HOV2.out hb3)
         clear hsum hsb hb3 hbox3 b0 b1 b2 b3 b4))
    obtain ⟨vs, hvm, hvo, hvl, hva⟩ := HOV3.out
    obtain ⟨A2, c2, rfl⟩ := own_form hvo
    have hVe : V = isort ltE es := by
      have := HV.out
      unfold vectorP at this
      split at this
      · split at this
        · cases this
        · injection this with this; exact this.symm
      · cases this
    have hfv : ∀ x ∈ vs, FineL x.2.1 := fun x hx => by
      refine HF.out.2 x.2 ?_
      have : x.2 ∈ V := by rw [← hvm]; exact List.mem_map_of_mem hx
      rw [hVe] at this
      exact (isort_perm es).mem_iff.1 this
    have hvn : vs.length ≤ 1048576 := by
      have h1 := congrArg List.length hvm
      rw [List.length_map, hVe, isort_length] at h1
      have := HF.out.1
      omega
    have hs3 := HB3.out.size
    have HGRR := Lib.hid (HGR.out A2 vs.length c2 vs w3 (Reads.of_own hvo) (fun x hx => LabsV.of_own (hvl x hx)) hfv hvn ((HNM.out.below HB3.out).more hs3) (HT.out.below HB3.out))
    have HSLV : Hid (∀ y ∈ vs, IsSl y.1) := fun y hy => by
      obtain ⟨A, c, he⟩ := own_form (hvl y hy)
      exact ⟨_, _, _, he⟩
    have HVS : Hid (vs.map (·.2) = V ∧ (∀ x ∈ vs, FineL x.2.1) ∧ vs.length ≤ 1048576) := ⟨hvm, hfv, hvn⟩
    obtain ⟨G, hG⟩ : ∃ G, groupsOf (fun x : Value × El => keepP x.2.1 names wo) vs = G := ⟨_, rfl⟩
    rw [hG] at HGRR
    have HG := Lib.hid hG
    clear hvm hvo hvl hva hVe hfv hG hvn
    go_wp2_with (go_at_call 33; refine (Hid.out HGRR).mono ?_; rintro e w4 ⟨gv, ms, rfl, hgm, hms, hb4⟩
                 obtain ⟨Ag, cg, rfl⟩ := own_form hgm.1
                 have HGM := Lib.hid hgm
                 have HMS := Lib.hid hms
                 have HB4 := Lib.hid (HB3.out.trans (hb4.mono hs3))
                 clear hgm hms hb4)
    have hs4 := HB4.out.size
    obtain ⟨i0, hi, hz0, hz1, hz2⟩ := info_parts infoElem
    have hlenG : ms.length ≤ 1048576 := by
      have e1 := congrArg List.length HMS.out
      rw [List.length_map, ← HG.out] at e1
      have e2 := groupsOf_length (fun x : Value × El => keepP x.2.1 names wo) vs
      have e3 := HVS.out.2.2
      omega
    go_loopw [8, 49] (fun ov iv wr => ∃ (k : Nat) (rs : List Nat) (outs : List (Value × El)), k ≤ ms.length ∧ iv = .int .i64 k ∧ Hid (outs.length = k) ∧ Hid (rs.length = k ∧ (∀ i (h1 : i < ms.length) (h2 : i < rs.length), R (ms[i].2.2.map (fun y => y.2.2)) rs[i]) ∧ outs = ((ms.take k).zip rs).map fun q => (q.1.1.lv, (q.1.2.1, q.2))) ∧
        Hid (wr.ownsRow w4.heap.size 43 2 ov k (cellsE outs)) ∧ Hid (Chg (SbSet ms k) w4 wr)) (fun _ iv _ => ms.length - (intOf iv).toNat)
    case atStart => exact ⟨0, [], [], by omega, by go_num, rfl, ⟨rfl, (fun i h1 h2 => absurd h2 (by simp)), by simp⟩, World.ownsRow_nil _ _ _ _, Chg.refl _ _⟩
    case round =>
      obtain ⟨k, rs, outs, hk', rfl, HOL, HRS, HOW, HC⟩ := hrel
      obtain ⟨Ao, co, rfl⟩ := own_form HOW.out
      have hwr := HC.out.size
      by_cases hlt : k < ms.length
      · have hat := gm_at HGM.out hlt HC.out
        have hrow := gm_row HGM.out HC.out
        obtain ⟨bg, og, hAg, hbg, hcg⟩ := (Reads.of_own hrow).at_ hlt
        cases hAg
        obtain ⟨x, hx⟩ : ∃ x, ms[k] = x := ⟨_, rfl⟩
        have hxm : x ∈ ms := by rw [← hx]; exact List.getElem_mem _
        have g0 : wr.cell? ⟨bg, og + k, none⟩ = some (.pointer (some ⟨x.1.b, 0, none⟩)) := hcg k _ (by rw [List.getElem?_map, List.getElem?_eq_getElem hlt, hx]; rfl)
        rw [hx] at hat
        have HX := Lib.hid hx
        have HXM := Lib.hid hxm
        clear hcg hx hrow hxm
        obtain ⟨⟨xb, xlv, xev, xsv, xsb⟩, xk, xel⟩ := x
        obtain ⟨_, hblk, hlab, hele, hsum⟩ := hat
        dsimp only at hblk hlab hele hsum g0
        obtain ⟨Al, cl, rfl⟩ := own_form hlab
        obtain ⟨Ae, ce, rfl⟩ := own_form hele
        obtain rfl := HSI.out hsum
        have r0 : wr.cell? ⟨xb, 0, none⟩ = some (.slice Al xk.length cl) := hblk.cell 0
        have r1 : wr.cell? ⟨xb, 1, none⟩ = some (.slice Ae xel.length ce) := hblk.cell 1
        have r2 : wr.cell? ⟨xb, 2, none⟩ = some (.iface (ifT op) (.pointer (some ⟨xsb, 0, none⟩))) := hblk.cell 2
        have hxb := hblk.lt
        have hneb : ¬ xb = xsb := fun e => by
          subst e
          exact (sumT_ne op).1 (ElT.same (w := wr) ⟨_, hblk⟩ (sum_blk hsum).2)
        have hst := SumAt.start (B2 := wr.heap.size) hsum
        have HSB := Lib.hid (sum_blk hsum)
        have HBLK := Lib.hid hblk
        have HELE := Lib.hid hele
        have HST := Lib.hid hst
        have hxe : ∀ y ∈ xel, y ∈ vs := fun y hy => by
          have hg : (xk, xel) ∈ G := by
            rw [← HMS.out]
            exact List.mem_map.2 ⟨_, HXM.out, rfl⟩
          rw [← HG.out] at hg
          have h6 := ((groupsOk (fun x : Value × El => keepP x.2.1 names wo) vs).2.1 _ hg).1
          dsimp only at h6
          rw [h6] at hy
          exact (List.mem_filter.1 hy).1
        have HXE := Lib.hid hxe
        have HPV : Hid (P (xel.map fun y => y.2.2)) := by
          have hg : (xk, xel) ∈ G := by
            rw [← HMS.out]
            exact List.mem_map.2 ⟨_, HXM.out, rfl⟩
          have e1 := groupsE_of names wo vs
          rw [HVS.out.1, HG.out] at e1
          have h9 := HPP.out V HV.out (xk, xel.map (·.2)) (by rw [← e1]; exact List.mem_map.2 ⟨_, hg, rfl⟩)
          rw [List.map_map] at h9
          exact h9
        have hxl : xel.length ≤ 1048576 := by
          have hg : (xk, xel) ∈ G := by
            rw [← HMS.out]
            exact List.mem_map.2 ⟨_, HXM.out, rfl⟩
          rw [← HG.out] at hg
          have h7 := groupsOf_mem_length _ _ _ hg
          have h8 := HVS.out.2.2
          dsimp only at h7
          omega
        clear hblk hlab hele hsum hst hxe
        obtain ⟨w5, hw5⟩ : ∃ w5, w5 = wr := ⟨_, rfl⟩
        subst hw5
        go_wp2_with fail
        go_loopw [67] (fun jv wi => ∃ j : Nat, j ≤ xel.length ∧ jv = .int .i64 j ∧ Hid (SumAt wi w3.heap.size w5.heap.size op xsb ((xel.map fun y => y.2.2).take j)) ∧ Hid (Chg (fun q => q = xsb) w5 wi)) (fun jv _ => xel.length - (intOf jv).toNat)
        case atStart => exact ⟨0, by omega, by go_num, HST.out, Chg.refl _ _⟩
        case round =>
          obtain ⟨j, hj, rfl, HSA, HCI⟩ := hrel
          have r2' : wr.cell? ⟨xb, 2, none⟩ = some (.iface (ifT op) (.pointer (some ⟨xsb, 0, none⟩))) := (HCI.out.cell hxb hneb).trans r2
          by_cases hjl : j < xel.length
          · obtain ⟨be, oe, hAe, hbe, hce⟩ := (Reads.of_own HELE.out).at_ hjl
            cases hAe
            have hx2 := cellsE_get xel j hjl
            have hneE : ¬ be = xsb := fun e => by
              subst e
              exact (sumT_ne op).2.2.1 (ElT.same (ElT.of_row HELE.out rfl) HSB.out.2)
            have d0 := (HCI.out.cell hbe hneE).trans (hce _ _ hx2.1)
            have d1 : wr.cell? ⟨be, oe + j * 2 + 1, none⟩ = some (.float .f64 xel[j].2.2) := (HCI.out.cell hbe hneE).trans (hce _ _ hx2.2)
            have hym := HXE.out xel[j] (List.getElem_mem _)
            have htk : (xel.map fun y => y.2.2).take (j + 1) = (xel.map fun y => y.2.2).take j ++ [xel[j].2.2] := by
              rw [List.take_succ_eq_append_getElem (by simpa using hjl), List.getElem_map]
            have hsl : IsSl xel[j].1 := HSLV.out _ hym
            obtain ⟨y, hy⟩ : ∃ y, xel[j] = y := ⟨_, rfl⟩
            rw [hy] at d0 d1 hsl htk
            obtain ⟨yv, ye⟩ := y
            obtain ⟨Ay, ny, cy, rfl⟩ := hsl
            dsimp only at d0 d1 htk
            have HTK := Lib.hid htk
            clear hce hx2 hym hy htk
            have hwi := HCI.out.size
            have HADD := Lib.hid (HAD.out w3.heap.size w5.heap.size xsb ((xel.map fun y => y.2.2).take j) ye.2 (wr.alloc (.cells #[.slice Ay ny cy, .float .f64 ye.2] 43)).drew ((HSA.out.below ((Below.refl _ _).alloc (Nat.le_refl _) _)).below (Below.refl _ _).drew) (by rw [List.length_take]; omega) (by show w5.heap.size ≤ (wr.alloc _).heap.size; simp; omega))
            have hxb1 : xb < wr.heap.size := by omega
            have hsbl : xsb < w5.heap.size := by obtain ⟨_, cs, hcs⟩ := HSB.out; exact hcs.lt
            have HBX : Hid (xb < ((wr.alloc (.cells #[.slice Ay ny cy, .float .f64 ye.2] 43)).drew).heap.size ∧ ¬ (xb = xsb ∨ (w5.heap.size ≤ xb ∧ ElT (wr.alloc (.cells #[.slice Ay ny cy, .float .f64 ye.2] 43)).drew xb 25)) ∧
                (wr.alloc (.cells #[.slice Ay ny cy, .float .f64 ye.2] 43)).drew.cell? ⟨xb, 2, none⟩ = some (.iface (ifT op) (.pointer (some ⟨xsb, 0, none⟩))) ∧
                wr.heap.size < ((wr.alloc (.cells #[.slice Ay ny cy, .float .f64 ye.2] 43)).drew).heap.size ∧ ¬ (wr.heap.size = xsb ∨ (w5.heap.size ≤ wr.heap.size ∧ ElT (wr.alloc (.cells #[.slice Ay ny cy, .float .f64 ye.2] 43)).drew wr.heap.size 25)) ∧
                (wr.alloc (.cells #[.slice Ay ny cy, .float .f64 ye.2] 43)).drew.cell? ⟨wr.heap.size, 1, none⟩ = some (.float .f64 ye.2)) := by
              have hv : Blk (wr.alloc (.cells #[.slice Ay ny cy, .float .f64 ye.2] 43)).drew wr.heap.size 43 #[.slice Ay ny cy, .float .f64 ye.2] := Blk.new _ _ _
              have hsz : ((wr.alloc (.cells #[.slice Ay ny cy, .float .f64 ye.2] 43)).drew).heap.size = wr.heap.size + 1 := World.size_alloc _ _
              refine ⟨by omega, ?_, (World.cell?_alloc_lt wr _ ⟨xb, 2, none⟩ hxb1).trans r2', by omega, ?_, hv.cell 1⟩
              · rintro (e | ⟨e, _⟩)
                · exact hneb e
                · omega
              · rintro (e | ⟨_, e⟩)
                · omega
                · have := ElT.same e ⟨_, hv⟩; cases this
            go_wp2_with fail
            go_region_held3 (fun W => W.cell? ⟨xb, 2, none⟩ = some (.iface (ifT op) (.pointer (some ⟨xsb, 0, none⟩))) ∧ W.cell? ⟨wr.heap.size, 1, none⟩ = some (.float .f64 ye.2))
              (first | go_keep | exact ⟨k2, k1⟩)
              ((refine (Hid.out HADD).mono ?_
                rintro e w7 ⟨rfl, hsa7, hc7⟩
                have k2 := (hc7.cell (g := xb) (o := 2) HBX.out.1 HBX.out.2.1).trans HBX.out.2.2.1
                have k1 := (hc7.cell (g := wr.heap.size) (o := 1) HBX.out.2.2.2.1 HBX.out.2.2.2.2.1).trans HBX.out.2.2.2.2.2))
            go_wp2_with fail
            go_roundw
            case rel =>
              refine ⟨j + 1, by omega, by go_num, ?_, ?_⟩
              · rw [HTK.out]; exact hsa7
              · exact (HCI.out.alloc _).drew.trans_new hc7 (fun i hi e => by
                  rcases e with e | ⟨e, _⟩
                  · exact e
                  · omega)
            case measure => simp [intOf]; omega
          · obtain rfl : j = xel.length := by omega
            have hsf : SumAt wr w3.heap.size w5.heap.size op xsb (xel.map fun y => y.2.2) := by
              have := HSA.out
              rwa [List.take_of_length_le (by simp)] at this
            have r0' : wr.cell? ⟨xb, 0, none⟩ = some (.slice Al xk.length cl) := (HCI.out.cell hxb hneb).trans r0
            have hwi := HCI.out.size
            have hxb1 : xb < wr.heap.size := by omega
            have hsbl : xsb < w5.heap.size := by obtain ⟨_, cs, hcs⟩ := HSB.out; exact hcs.lt
            have HANN := Lib.hid (HAN.out w3.heap.size w5.heap.size xsb (xel.map fun y => y.2.2) wr.drew HPV.out (hsf.below (Below.refl _ _).drew) (by simp; omega))
            have how : wr.ownsRow w4.heap.size 43 2 (.slice Ao k co) k (cellsE outs) := own_chg HOW.out HCI.out (fun g hg e => by
              subst e
              exact (sumT_ne op).2.2.1 (ElT.same (ElT.of_row HOW.out hg) HSB.out.2))
            have HOWI := Lib.hid how
            have HBI : Hid (Blk wr xb 78 #[.slice Al xk.length cl, .slice Ae xel.length ce, .iface (ifT op) (.pointer (some ⟨xsb, 0, none⟩))]) := HBLK.out.chg HCI.out hneb
            clear how hsf
            go_wp2_with fail
            go_region_held3 (fun W => W.cell? ⟨xb, 0, none⟩ = some (.slice Al xk.length cl) ∧ W.cell? ⟨xb, 2, none⟩ = some (.iface (ifT op) (.pointer (some ⟨xsb, 0, none⟩))))
              (first | go_keep | exact ⟨k0, k2⟩ | exact ⟨m0, m2⟩)
              (first
                | (refine step_append_any _ (by rfl) (.tmp 79) (.tmp 90) _ (by rfl) w4.heap.size 43 i0 _ 2 32 Tryz.underlying28 hi hz0 hz1 hz2 (by rfl) (by decide) _ k _ (by rfl) HOW8.out (w8.heap.size + 1) (some ⟨w8.heap.size, 0, none⟩) 1 1 [.slice Al xk.length cl, .float .f64 r] (by rfl) HRW8.out (by simp [Value.oneCell']) (by unfold maxLen; omega) (by omega) HBS8.out ?_
                   intro v10 w10 hown10 hg10 hor10
                   have hb10 : Blk w10 xb 78 #[.slice Al xk.length cl, .slice Ae xel.length ce, .iface (ifT op) (.pointer (some ⟨xsb, 0, none⟩))] := HBL8.out.grown hg10 (fun e => by have := ElT.same (ElT.of_row HOW8.out e.symm) ⟨_, HBL8.out⟩; cases this)
                   have m0 : w10.cell? ⟨xb, 0, none⟩ = some (.slice Al xk.length cl) := hb10.cell 0
                   have m2 : w10.cell? ⟨xb, 2, none⟩ = some (.iface (ifT op) (.pointer (some ⟨xsb, 0, none⟩))) := hb10.cell 2)
                | (refine (Hid.out HANN).mono ?_
                   rintro e w8 ⟨r, rfl, hr8, hb8⟩
                   have hbl8 : Blk w8 xb 78 #[.slice Al xk.length cl, .slice Ae xel.length ce, .iface (ifT op) (.pointer (some ⟨xsb, 0, none⟩))] := HBI.out.drew.below hb8 (by show xb < wr.heap.size; omega)
                   have k0 : w8.cell? ⟨xb, 0, none⟩ = some (.slice Al xk.length cl) := hbl8.cell 0
                   have k2 : w8.cell? ⟨xb, 2, none⟩ = some (.iface (ifT op) (.pointer (some ⟨xsb, 0, none⟩))) := hbl8.cell 2
                   have HB8 := Lib.hid hb8
                   have hs8 : wr.heap.size ≤ w8.heap.size := hb8.size
                   have HBL8 := Lib.hid (hbl8.alloc (.cells #[.slice Al xk.length cl, .float .f64 r] 43))
                   have HOW8 := Lib.hid ((own_below (w := wr.drew) HOWI.out.drew hb8).alloc (.cells #[.slice Al xk.length cl, .float .f64 r] 43))
                   have HBS8 : Hid (w4.heap.size ≤ (w8.alloc (.cells #[.slice Al xk.length cl, .float .f64 r] 43)).heap.size) := by show _ ≤ _; rw [World.size_alloc]; omega
                   have HRW8 : Hid (Reads (w8.alloc (.cells #[.slice Al xk.length cl, .float .f64 r] 43)) (w8.heap.size + 1) 2 (some ⟨w8.heap.size, 0, none⟩) 1 [.slice Al xk.length cl, .float .f64 r]) :=
                     ⟨by simp, fun _ => ⟨_, _, rfl, by omega, fun j u hu => by have := new_cells w8 #[.slice Al xk.length cl, .float .f64 r] 43 w8.heap.size rfl j u hu; rw [add_mk] at this; exact this⟩⟩
                   clear hb8 hbl8))
            go_wp2_with fail
            go_roundw
            case rel =>
              refine ⟨k + 1, rs ++ [r], outs ++ [(.slice Al xk.length cl, (xk, r))], by omega, by go_num, ?_, ⟨by simp [HRS.out.1], fun i h1 h2 => ?_, ?_⟩, ?_, ?_⟩
              · show _ = _; simp [HOL.out]
              · have hl := HRS.out.1
                rcases Nat.lt_or_ge i rs.length with h3 | h3
                · rw [List.getElem_append_left h3]
                  exact HRS.out.2.1 i h1 h3
                · have h4 : i = k := by rw [List.length_append, List.length_singleton] at h2; omega
                  subst h4
                  rw [List.getElem_append_right h3, HX.out]
                  simp only [List.getElem_singleton]
                  exact hr8
              · rw [List.take_succ_eq_append_getElem hlt, List.zip_append (by rw [List.length_take, HRS.out.1]; omega), List.map_append, ← HRS.out.2.2, HX.out]
                rfl
              · rw [cellsE_append]
                exact hown10
              · have c1 : Chg (SbSet ms (k + 1)) w4 wr := (HC.out.mono (fun q _ h => sbSet_succ hlt (.inl h))).trans_new HCI.out (fun i _ e => sbSet_succ hlt (.inr (by rw [HX.out]; exact e)))
                have c2 : Chg (SbSet ms (k + 1)) w4 (w8.alloc (.cells #[.slice Al xk.length cl, .float .f64 r] 43)) := (c1.drew.trans (Chg.of_below HB8.out)).alloc _
                refine c2.trans_new (Chg.of_grown (S := fun q => w4.heap.size ≤ q) hg10 (fun q hq _ => (row_lt HOW8.out hq).1)) (fun i hi e => ?_)
                have e' : w4.heap.size ≤ i := e
                omega
            case measure => simp [intOf]; omega
      · obtain rfl : k = ms.length := by omega
        obtain ⟨oes, hoes⟩ : ∃ oes, outs.map (·.2) = oes := ⟨_, rfl⟩
        have hSO : SumOut R names wo V oes := by
          have hG : groupsE names wo V = ms.map fun x => (x.2.1, x.2.2.map (·.2)) := by
            have e1 := groupsE_of names wo vs
            rw [HVS.out.1, HG.out, ← HMS.out, List.map_map] at e1
            rw [← e1]; rfl
          refine ⟨rs, by rw [hG, List.length_map, HRS.out.1], fun i h1 h2 => ?_, ?_⟩
          · have h3 : i < ms.length := by rw [hG, List.length_map] at h1; exact h1
            have := HRS.out.2.1 i h3 h2
            simp only [hG, List.getElem_map, List.map_map]
            exact this
          · rw [← hoes, HRS.out.2.2, hG, List.take_length, List.zip_map_left, List.map_map, List.map_map]
            rfl
        have hfine : FineE oes := by
          refine ⟨by rw [← hoes, List.length_map, HOL.out]; exact hlenG, fun x hx => ?_⟩
          rw [← hoes] at hx
          obtain ⟨o, ho, rfl⟩ := List.mem_map.1 hx
          rw [HRS.out.2.2] at ho
          obtain ⟨q, hq, rfl⟩ := List.mem_map.1 ho
          have h1 := (List.of_mem_zip hq).1
          have hxm : q.1 ∈ ms := List.mem_of_mem_take h1
          have hg : q.1.2 ∈ G := by rw [← HMS.out]; exact List.mem_map_of_mem hxm
          rw [← HG.out] at hg
          have h6 := ((groupsOk (fun x : Value × El => keepP x.2.1 names wo) vs).2.1 _ hg)
          obtain ⟨y, hy⟩ := List.exists_mem_of_ne_nil _ h6.2
          rw [h6.1] at hy
          obtain ⟨hy1, hy2⟩ := List.mem_filter.1 hy
          have hk2 := of_decide_eq_true hy2
          show FineL q.1.2.1
          rw [← hk2]
          exact fineL_keep (HVS.out.2.1 y hy1) names wo
        have hvv : VecV wr wr.heap.size (.slice Ao ms.length co) oes := by
          have hol := HOL.out
          have hro := Reads.of_own HOW.out
          refine ⟨Ao, ms.length, co, outs, rfl, hro, hoes, fun x hx => ?_, ?_, ?_⟩
          · rw [HRS.out.2.2] at hx
            obtain ⟨q, hq, rfl⟩ := List.mem_map.1 hx
            have h1 := (List.of_mem_zip hq).1
            exact LabsV.of_own (gm_labels HGM.out HC.out (List.mem_of_mem_take h1))
          · rcases HOW.out.2 with ⟨h1, h2⟩ | ⟨g, cap, cur, h1, _, _, h3, _⟩
            · injection h1 with _ h4 h5; omega
            · injection h1 with _ h4 h5; omega
          · intro hA
            rcases HOW.out.2 with ⟨h1, h2⟩ | ⟨g, cap, cur, h1, _, _, h3, _⟩
            · injection h1
            · injection h1 with h4; rw [hA] at h4; cases h4
        have HVF := Lib.hid (vector_any (.slice Ao ms.length co) oes wr hvv hfine)
        have HSO := Lib.hid hSO
        have HBW : Hid (RowKit.Below w.heap.size w wr) := HB4.out.trans (HC.out.below hs4 (fun q hq e => by
          obtain ⟨y, hy, rfl⟩ := e
          have := (sum_blk (HGM.out.2.1 y (List.mem_of_mem_take hy)).2.2.2.2).1
          omega))
        clear hSO hfine hvv
        cases hvo : vectorP oes with
        | none =>
          rw [hvo] at HVF
          have HVO := Lib.hid hvo
          clear hvo
          go_wp2_with (go_at_call 15; refine (Hid.out HVF).mono ?_; rintro e w9 ⟨hb9, rfl⟩)
          go_ret2
          refine ⟨HBW.out.trans (hb9.mono HBW.out.size), ?_⟩
          rw [HV.out]
          refine ⟨oes, HSO.out, ?_⟩
          rw [HVO.out]
          rfl
        | some o =>
          rw [hvo] at HVF
          have HVO := Lib.hid hvo
          clear hvo
          go_wp2_with (go_at_call 15; refine (Hid.out HVF).mono ?_; rintro e w9 ⟨hb9, v9, rfl, hov9⟩)
          go_ret2
          refine ⟨HBW.out.trans (hb9.mono HBW.out.size), ?_⟩
          rw [HV.out]
          refine ⟨oes, HSO.out, ?_⟩
          rw [HVO.out]
          exact ⟨v9, rfl, own_vec_mono hov9 HBW.out.size⟩
end Go.Proofs.YtefdoineacfbhaaGreatDoor
