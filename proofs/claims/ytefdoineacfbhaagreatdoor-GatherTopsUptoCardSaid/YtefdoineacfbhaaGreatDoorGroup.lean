/- What gather.grouped computes. -/
import Derived.Test.YtefdoineacfbhaaGreatDoorGroupW
import Derived.Deep.DeepCutAuto
namespace Go.Proofs.YtefdoineacfbhaaGreatDoor
open Go Go.Proofs Go.Shelf Go.RowKit Go.Lib Go.Sort Go.Maps Go.WideMaps

attribute [local go_sem] run_store_float

theorem infoStr : (Tryz.prog.info? 9).map (fun i => (i.zero, i.size, i.bytes)) = some (some (.string ⟨#[]⟩), 1, 16) := by kernel_rfl

def GroupsRes (w : World) (op : Agg) (G : List Grp) (e : Ending) (w' : World) : Prop :=
  ∃ gv ms, e = .returned gv ∧ GroupsMem w' w.heap.size op gv ms ∧ ms.map (·.2) = G ∧ RowKit.Below w.heap.size w w'

theorem strKeyed : Keyed Tryz.prog 9 := string_keyed Tryz.underlying9
theorem zeroInt (w : World) : (zeroValue 3).run Tryz.prog w = .ok (.int .i64 0) w := by kernel_rfl

theorem fineL_keep {ls : List Lb} (h : FineL ls) (names : List ByteArray) (wo : Bool) : FineL (keepP ls names wo) := by
  unfold keepP
  exact ⟨Nat.le_trans (List.length_filter_le _ _) h.1, fun l hl => h.2 l (List.mem_filter.1 hl).1⟩

theorem groupsOf_length {K V : Type} [DecidableEq K] (f : V → K) (xs : List V) : (groupsOf f xs).length ≤ xs.length := by
  have h1 : ∀ (G : List (K × List V)) k x, (addTo G k x).length ≤ G.length + 1 := by
    intro G k x
    induction G with
    | nil => simp [addTo]
    | cons g G ih => unfold addTo; split <;> simp <;> omega
  have h2 : ∀ (xs : List V) (G : List (K × List V)), (xs.foldl (fun G x => addTo G (f x) x) G).length ≤ G.length + xs.length := by
    intro xs
    induction xs with
    | nil => intro G; simp
    | cons x xs ih => intro G; have := ih (addTo G (f x) x); have := h1 G (f x) x; simp; omega
  have := h2 xs []
  simpa [groupsOf] using this
theorem groupsOf_mem_length {K V : Type} [DecidableEq K] (f : V → K) (xs : List V) : ∀ g ∈ groupsOf f xs, g.2.length ≤ xs.length := by
  have h1 : ∀ (G : List (K × List V)) k x N, (∀ g ∈ G, g.2.length ≤ N) → ∀ g ∈ addTo G k x, g.2.length ≤ N + 1 := by
    intro G k x N
    induction G with
    | nil => intro _ g hg; simp [addTo] at hg; subst hg; simp
    | cons y G ih =>
      intro h g hg
      unfold addTo at hg
      split at hg
      · rcases List.mem_cons.1 hg with rfl | hg
        · have := h y (by simp); simp; omega
        · have := h g (by simp [hg]); omega
      · rcases List.mem_cons.1 hg with rfl | hg
        · have := h g (by simp); omega
        · exact ih (fun z hz => h z (by simp [hz])) g hg
  have h2 : ∀ (xs : List V) (G : List (K × List V)) N, (∀ g ∈ G, g.2.length ≤ N) → ∀ g ∈ xs.foldl (fun G x => addTo G (f x) x) G, g.2.length ≤ N + xs.length := by
    intro xs
    induction xs with
    | nil => intro G N h g hg; exact h g hg
    | cons x xs ih =>
      intro G N h g hg
      have := ih _ (N + 1) (h1 G (f x) x N h) g hg
      rw [List.length_cons]
      omega
  intro g hg
  have := h2 xs [] 0 (fun g hg => by cases hg) g hg
  omega
theorem keysOf_set {K V : Type} {G : List (K × List V)} {i : Nat} {k : K} {l : List V} (h : G[i]? = some (k, l)) (l' : List V) : keysOf (G.set i (k, l')) = keysOf G := by
  unfold keysOf
  rw [List.map_set]
  apply List.ext_getElem?
  intro j
  rw [List.getElem?_set]
  have hlt : i < G.length := by
    rcases Nat.lt_or_ge i G.length with h1 | h1
    · exact h1
    · rw [List.getElem?_eq_none h1] at h; cases h
  by_cases e : i = j
  · rw [if_pos e, List.length_map, if_pos hlt, ← e, List.getElem?_map, h]
    rfl
  · rw [if_neg e]
theorem sum_cells {w : World} {B : Nat} {op : Agg} {sv : Value} {sb : Nat} (h : SumIs w B op sv sb) : sv.cells = #[sv] := by
  unfold SumIs at h
  cases hk : kd op
  all_goals
    rw [hk] at h
    dsimp only at h
    rw [h.1]
    rfl
theorem sum_shape (op : Agg) : (∃ T, ∀ (w : World) (B : Nat) sv sb, SumIs w B op sv sb → sv = .iface T (.pointer (some ⟨sb, 0, none⟩))) ∨ ∀ (w : World) (B : Nat) sv sb, SumIs w B op sv sb → sv = .nilIface := by
  cases hk : kd op
  · exact .inl ⟨_, fun w B sv sb h => by unfold SumIs at h; rw [hk] at h; exact h.1⟩
  · exact .inl ⟨_, fun w B sv sb h => by unfold SumIs at h; rw [hk] at h; exact h.1⟩
  · exact .inl ⟨_, fun w B sv sb h => by unfold SumIs at h; rw [hk] at h; exact h.1⟩
  · exact .inr fun w B sv sb h => by unfold SumIs at h; rw [hk] at h; exact h.1

/-- A post that lets the normal exit alone go. -/
def OnlyNormal (R : Act → World → Prop) : Exit → Act → World → Prop
  | .normal, a, w => R a w
  | _, _, _ => False
theorem OnlyNormal.mk {R : Act → World → Prop} {a : Act} {w : World} (h : R a w) : OnlyNormal R .normal a w := h
theorem OnlyNormal.out {R : Act → World → Prop} {e : Exit} {a : Act} {w : World} (h : OnlyNormal R e a w) : e = .normal ∧ R a w := by
  cases e
  case normal => exact ⟨rfl, h⟩
  all_goals exact absurd h (by simp [OnlyNormal])
/-- A region behind which the frame hangs on two values alone. -/
theorem wp_frame {P : Program} {c : Code} {Q : Exit → Act → World → Prop} {a : Act} {w : World} {F : Option Addr → Nat → Act} {R : Option Addr → Nat → World → World → Prop}
    (hreg : c.wp P (OnlyNormal fun a' wx => ∃ A10 c10 w10, a' = F A10 c10 ∧ R A10 c10 w10 wx) a w) (himp : ∀ A10 c10 w10 wx, R A10 c10 w10 wx → Q .normal (F A10 c10) wx) : c.wp P Q a w :=
  Code.wp_mono (fun e a' w' h => by
    obtain ⟨rfl, A10, c10, w10, rfl, hr⟩ := OnlyNormal.out h
    exact himp A10 c10 w10 w' hr) hreg
theorem infoPtr : (Tryz.prog.info? 75).map (fun i => (i.zero, i.size, i.bytes)) = some (some (.pointer none), 1, 8) := by kernel_rfl
theorem MapOf.at_ {D : DataW Unit} {G : List Grp} (h : MapOf D G) (key : List Lb) : has D (klOf key) = decide (key ∈ keysOf G) ∧ ∀ i : Nat, (keysOf G)[i]? = some key → D.atKey (klOf key) (.lit (.int .i64 0)) = .lit (.int .i64 i) := h.2 key

set_option maxHeartbeats 2000000 in
set_option maxRecDepth 100000 in
theorem grouped_any (op : Agg) (wo : Bool) (A' : Option Addr) (m c' : Nat) (names : List ByteArray) (param : Nat) (text : ByteArray) (A : Option Addr) (n c : Nat) (vs : List (Value × El)) (w : World)
    (hr : Reads w w.heap.size 2 A n (cellsE vs)) (hlab : ∀ x ∈ vs, LabsV w w.heap.size x.1 x.2.1) (hf : ∀ x ∈ vs, FineL x.2.1) (hn : n ≤ 1048576)
    (hnm : Reads w w.heap.size 1 A' m (names.map .string)) (hm : m ≤ 1048576) (htab : PowTab w) (hop : op ≠ .values) (hq : ∀ q, op = .quantile q → param = q) :
    Calls Tryz.prog 33 #[.agg (gathV op wo (.slice A' m c') param text), .slice A n c] w (GroupsRes w op (groupsOf (fun x => keepP x.2.1 names wo) vs)) := by
  obtain ⟨i0, hi, hz0, hz1, hz2⟩ := info_parts infoElem
  have hl0 : vs.length = n := by have := hr.1; rw [cellsE_length] at this; omega
  have HR := Lib.hid hr
  have HLAB := Lib.hid hlab
  have HF := Lib.hid hf
  have HNM := Lib.hid hnm
  have HL0 := Lib.hid hl0
  have HT := Lib.hid htab
  clear hr hlab hf hl0 hnm htab
  have hcv : ((opB op).toList == [99, 111, 117, 110, 116, 95, 118, 97, 108, 117, 101, 115]) = false := by cases op <;> first | exact absurd rfl hop | (rw [ByteArray.toList_eq]; rfl)
  have hmm : ∀ (k : Int) W, (Instr.makeMap 108 (some (.int .i64 k))).run Tryz.prog W = .ok (.map (some W.heap.size)) (W.alloc (.map #[] 0)) := fun k W => by
    simp [Instr.makeMap, run_underlying Tryz.underlying108]; rfl
  have HBG := Lib.hid (fun W => begun_any op wo A' m c' param text W hq)
  clear hq hop
  unfold gathV at HBG ⊢
  generalize opB op = ob at hcv HBG ⊢
  go_enter Tryz.func33, Tryz.ntmps33
  go_wp2_with fail
  go_loopw [6, 21] (fun gv i wr => ∃ (k : Nat) (ms : List (GM × Grp)) (D : DataW Unit), k ≤ n ∧ i = .int .i64 k ∧ Hid (ms.map (·.2) = groupsOf (fun x => keepP x.2.1 names wo) (vs.take k)) ∧ Hid (MapOf D (ms.map (·.2))) ∧
      Hid (GroupsMem wr (w.heap.size + 2) op gv ms) ∧ Hid (wr.ownsMap Tryz.prog 9 (plainElem Tryz.prog 3) (w.heap.size + 1) ms.length D) ∧
      Blk wr w.heap.size 27 #[.string ob, .bool wo, .slice A' m c', .float .f64 param, .string text] ∧ RowKit.Below w.heap.size w wr ∧ w.heap.size + 2 ≤ wr.heap.size) (fun _ i _ => n - (intOf i).toNat)
  case atStart =>
    refine ⟨0, [], .map [], by omega, by go_num, rfl, MapOf.empty, ⟨World.ownsRow_nil _ _ _ _, (fun x hx => by cases hx), List.Pairwise.nil⟩, ?_, ?_, ((Below.refl _ _).alloc (Nat.le_refl _) _).alloc (by simp) _, by simp⟩
    · have := World.ownsMap_made (H := Unit) (w.alloc (.cells #[.string ob, .bool wo, .slice A' m c', .float .f64 param, .string text] 27)) Tryz.prog 9 (plainElem Tryz.prog 3)
      rw [World.size_alloc] at this
      exact this
    · exact (Blk.new _ _ _).alloc _
  case round =>
    obtain ⟨k, ms, D, hk, rfl, HMS, HMAP, HG, HMO, hbox, hb, hsz⟩ := hrel
    obtain ⟨Ag, cg, rfl⟩ := own_form HG.out.1
    by_cases hlt : k < n
    · obtain ⟨b, off, rfl, hbl, hc⟩ := HR.out.at_ hlt
      have hk0 : k < vs.length := by have := HL0.out; omega
      have hx := cellsE_get vs k hk0
      have hlk := HLAB.out vs[k] (List.getElem_mem _)
      have hfk := HF.out vs[k] (List.getElem_mem _)
      have hgs : groupsOf (fun x : Value × El => keepP x.2.1 names wo) (vs.take (k + 1)) = addTo (groupsOf (fun x => keepP x.2.1 names wo) (vs.take k)) (keepP vs[k].2.1 names wo) vs[k] := by
        rw [List.take_succ_eq_append_getElem hk0, groupsOf_snoc]
      have c0 := (hb.cell (p := ⟨b, off + k * 2, none⟩) hbl).trans (hc _ _ hx.1)
      have c1 := (hb.cell (p := ⟨b, off + k * 2 + 1, none⟩) hbl).trans (hc _ _ hx.2)
      obtain ⟨x, hxx⟩ : ∃ x, vs[k] = x := ⟨_, rfl⟩
      rw [hxx] at c0 c1 hlk hfk hgs
      obtain ⟨xv, xe⟩ := x
      dsimp only at c0 c1 hlk hfk hgs
      have HGS := Lib.hid hgs
      clear hx hc hxx hgs
      obtain ⟨Ax, nx, cx, rfl, hrx, _, _⟩ := hlk
      have hxl : xe.1.length = nx := by have := hrx.1; rw [cellsL_length] at this; omega
      have hfine := fineL_keep hfk names wo
      have hnx : nx ≤ 1048576 := by have := hfk.1; omega
      obtain ⟨own, hown⟩ : ∃ own, keepP xe.1 names wo = own := ⟨_, rfl⟩
      have hwr1 : w.heap.size ≤ (wr.alloc (.cells #[.slice Ax nx cx, .float .f64 xe.2] 43)).heap.size := by simp; omega
      have hb1 := hb.alloc hb.size (.cells #[.slice Ax nx cx, .float .f64 xe.2] 43)
      have HK := Lib.hid (keep_any Ax nx cx 0 xe.1 A' m c' names wo _ ((hrx.below hb1).more hwr1) ((HNM.out.below hb1).more hwr1) hnx hm)
      rw [hown] at HK HGS hfine
      have HFI := Lib.hid hfine
      have e0 : wr.cell? ⟨w.heap.size, 0, none⟩ = some (.string ob) := hbox.cell 0
      have e1 : wr.cell? ⟨w.heap.size, 1, none⟩ = some (.bool wo) := hbox.cell 1
      have e2 : wr.cell? ⟨w.heap.size, 2, none⟩ = some (.slice A' m c') := hbox.cell 2
      have hlt2 : w.heap.size < wr.heap.size := by omega
      have HB1 := Lib.hid hb1
      have HBOX := Lib.hid (hbox.alloc (.cells #[.slice Ax nx cx, .float .f64 xe.2] 43))
      have HNB := Lib.hid (Blk.new wr 43 #[.slice Ax nx cx, .float .f64 xe.2])
      have hbs := hb.size
      clear hb1 hwr1 hrx hfk hfine hbox hown hxl hb
      obtain ⟨j0, ji, jz0, jz1, jz2⟩ := info_parts infoStr
      have hLo : own.length ≤ 1048576 := HFI.out.1
      go_wp2_with (first
        | (go_at_call 18
           refine (Hid.out HK).mono ?_
           rintro e w2 ⟨ov, rfl, hown2, hb2⟩
           obtain ⟨Ao, co, rfl⟩ := own_form hown2
           have HB2 : Hid (RowKit.Below w.heap.size w w2) := HB1.out.trans (hb2.mono (by simp; omega))
           have HBOX2 : Hid (Blk w2 w.heap.size 27 #[.string ob, .bool wo, .slice A' m c', .float .f64 param, .string text]) := HBOX.out.below hb2 (by simp; omega)
           have HNB2 : Hid (Blk w2 wr.heap.size 43 #[.slice Ax nx cx, .float .f64 xe.2]) := HNB.out.below hb2 (by simp)
           have HG2 : Hid (GroupsMem w2 (w.heap.size + 2) op (.slice Ag ms.length cg) ms) := (HG.out.kept (World.grownBy_alloc _ _ none) (fun r e => by cases e)).below hb2
           have HMO2 : Hid (w2.ownsMap Tryz.prog 9 (plainElem Tryz.prog 3) (w.heap.size + 1) ms.length D) := (HMO.out.alloc _).kept (grown_of_below hb2) (by simp)
           have HOWN2 := Lib.hid (own_mono hown2 (show w.heap.size + 2 ≤ _ by rw [World.size_alloc]; omega))
           have hs2 : wr.heap.size + 1 ≤ w2.heap.size := by have := hb2.size; simp at this; omega
           have f0 : w2.cell? ⟨w.heap.size, 0, none⟩ = some (.string ob) := HBOX2.out.cell 0
           clear e0 e1 e2 c0 c1 hb2 hown2 HB1 HBOX HNB HG HMO HK)
        | (refine wpList_make_own _ rfl _ _ _ rfl w2.heap.size 9 j0 _ 1 Tryz.underlying24 ji jz0 jz1 _ _ _ own.length rfl rfl rfl (by rw [jz2]; omega) (by unfold maxLen; omega) (Nat.le_refl _) ?_
           intro w3 hown3 hg3
           have HB3 : Hid (RowKit.Below w2.heap.size w2 w3) := (Below.refl _ _).grown hg3 (Nat.le_refl _) (by simp)
           have HS3 : w2.heap.size + 1 ≤ w3.heap.size := (hown3.lt _ rfl).2
           clear hg3))
      clear f0
      obtain ⟨eb, heb⟩ : ∃ eb, wr.heap.size = eb := ⟨_, rfl⟩
      rw [heb] at HNB2 hs2 hlt2 hsz ⊢
      clear heb
      go_loopw [10, 47] (fun nv i wi => ∃ j : Nat, j ≤ own.length ∧ i = .int .i64 j ∧ nv = .slice (some ⟨w2.heap.size, 0, none⟩) j own.length ∧
          wi.ownsRow w2.heap.size 9 1 (.slice (some ⟨w2.heap.size, 0, none⟩) j own.length) j ((own.take j).map fun l => .string l.1) ∧ Hid (RowKit.Below w2.heap.size w2 wi) ∧ w2.heap.size + 1 ≤ wi.heap.size) (fun _ i _ => own.length - (intOf i).toNat)
      case atStart => exact ⟨0, by omega, by go_num, rfl, hown3, HB3.out, HS3⟩
      case round =>
        clear hown3 HB3 HS3
        obtain ⟨j, hj, rfl, rfl, hownj, HBJ, hsj⟩ := hrel
        by_cases hjl : j < own.length
        · obtain ⟨bo, oo, hAo, hbo, hco⟩ := (Reads.of_own HOWN2.out).at_ hjl
          cases hAo
          have hox := cellsL_get own j hjl
          have d0 := (HBJ.out.cell (p := ⟨bo, oo + j * 2, none⟩) hbo).trans (hco _ _ hox.1)
          have d1 := (HBJ.out.cell (p := ⟨bo, oo + j * 2 + 1, none⟩) hbo).trans (hco _ _ hox.2)
          have hsn : ((own.take (j + 1)).map fun l => Value.string l.1) = ((own.take j).map fun l => Value.string l.1) ++ [.string own[j].1] := by
            rw [List.take_succ_eq_append_getElem hjl, List.map_append]; rfl
          obtain ⟨nm, hnm⟩ : ∃ x, own[j].1 = x := ⟨_, rfl⟩
          obtain ⟨vl, hvl⟩ : ∃ x, own[j].2 = x := ⟨_, rfl⟩
          rw [hnm] at d0 hsn
          rw [hvl] at d1
          have HSN := Lib.hid hsn
          clear hsn hnm hvl hox hco
          have ee : (wr.alloc (.cells #[.string nm, .string vl] 46)).heap.size = wr.heap.size + 1 := by simp
          have HO1 := Lib.hid (hownj.alloc (.cells #[.string nm, .string vl] 46))
          have HB1 : Hid (RowKit.Below w2.heap.size w2 (wr.alloc (.cells #[.string nm, .string vl] 46))) := HBJ.out.alloc (by omega) _
          clear hownj HBJ
          go_wp2_with (at_builtin
                       refine wpList_append_fits _ rfl (.tmp 51) (.tmp 54) _ rfl w2.heap.size 9 j0 1 Tryz.underlying24 ji jz1 w2.heap.size j own.length _ rfl (HO1.out.alloc _) ⟨wr.heap.size + 1, 0, none⟩ 1 1 [.string nm] rfl rfl (new_cells _ _ _ _ ee.symm) (by simp [Value.oneCell']) (by omega) ?_
                       intro w4 hown4 hg4
                       have HB4 : Hid (RowKit.Below w2.heap.size w2 w4) := (HB1.out.alloc (by omega) _).grown hg4 (by rw [World.size_alloc]; omega) (by intro q hq; injection hq with hq; omega)
                       have hs4 : w2.heap.size + 1 ≤ w4.heap.size := by have := hg4.size; rw [World.size_alloc] at this; omega
                       clear hg4)
          go_roundw
          case rel => exact ⟨j + 1, by omega, by go_num, rfl, by rw [HSN.out]; exact hown4, HB4.out, hs4⟩
          case measure => simp [intOf]; omega
        · obtain rfl : j = own.length := by omega
          have hw2 : w.heap.size + 2 ≤ w2.heap.size := by omega
          have hnames : ((own.take own.length).map fun l => Value.string l.1) = (own.map (·.1)).map .string := by rw [List.take_length, List.map_map]; rfl
          have HRN := Lib.hid (Reads.of_own hownj)
          rw [hnames] at HRN
          have HBW : Hid (RowKit.Below w.heap.size w wr) := HB2.out.trans (HBJ.out.mono (by omega))
          have HG3 := Lib.hid (HG2.out.below HBJ.out)
          have HMO3 := Lib.hid (HMO2.out.kept (grown_of_below HBJ.out) (by simp))
          have HBOX3 := Lib.hid (HBOX2.out.below HBJ.out (by omega))
          have HNB3 := Lib.hid (HNB2.out.below HBJ.out (by omega))
          have HOWN3 := Lib.hid (own_below HOWN2.out HBJ.out)
          have HKEY := Lib.hid (key_any Ao own.length co own (some ⟨w2.heap.size, 0, none⟩) own.length own.length (own.map (·.1)) false wr (Reads.of_own HOWN3.out) HRN.out HFI.out hLo (HT.out.below HBW.out))
          rw [keep_own] at HKEY
          have hs3 : w2.heap.size ≤ wr.heap.size := by omega
          clear hownj HB2 HBJ HG2 HMO2 HBOX2 HNB2 HOWN2 HRN hnames
          obtain ⟨hv, hhv⟩ : ∃ hv, Maps.has D (klOf own) = hv := ⟨_, rfl⟩
          go_upto_if 67 with (first
              | (go_at_call 69
                 refine (Hid.out HKEY).mono ?_
                 rintro e w5 ⟨ks, rfl, hks, hb5⟩
                 have hkey : keyOf Tryz.prog 9 (.string ks) = some (klOf own) := by
                   rw [keyOf_string_mk Tryz.underlying9 ?_, hks]; rfl
                   have h1 := keyB_le own HFI.out.2
                   have h2 := key_bound own.length _ h1 hLo
                   have h3 : ks.size = (keyB own).length := by rw [← hks, Array.length_toList]; rfl
                   unfold maxLen
                   omega
                 have HB5 := Lib.hid hb5
                 have HMO5 := Lib.hid (HMO3.out.kept (grown_of_below hb5) (by simp))
                 clear hb5)
              | (at_lookup
                 refine wpList_lookup_own_ok_int _ rfl _ _ 108 rfl 9 3 .i64 strKeyed Tryz.underlying108 Tryz.underlying3 (zeroInt _) (w.heap.size + 1) ms.length D rfl HMO5.out _ _ rfl hkey ?_
                 intro cc hat hwc
                 have HAT := Lib.hid hat
                 rw [hhv]
                 clear hat))
          have HHV := Lib.hid hhv
          have HND : Hid (keysOf (ms.map (·.2))).Nodup := by show (keysOf _).Nodup; rw [HMS.out]; exact groupsOf_nodup _ _
          have HG5 := Lib.hid (HG3.out.below HB5.out)
          have HBOX5 := Lib.hid (HBOX3.out.below HB5.out (by omega))
          have HNB5 := Lib.hid (HNB3.out.below HB5.out (by omega))
          have HBW5 := Lib.hid (HBW.out.trans (HB5.out.mono (by omega)))
          have hs5 : eb + 1 ≤ w5.heap.size := by have := HB5.out.size; omega
          clear hhv
          go_cut [6, 14] (fun s6 s14 wx => ∃ (ms2 : List (GM × Grp)) (D2 : DataW Unit) (i : Nat) (l : List (Value × El)) (Ag : Option Addr) (cg : Nat), s6 = .slice Ag ms2.length cg ∧ s14 = .int .i64 i ∧ i < ms2.length ∧
            Hid ((ms2.map (·.2))[i]? = some (own, l) ∧ addTo (ms.map (·.2)) own (.slice Ax nx cx, xe) = (ms2.map (·.2)).set i (own, l ++ [(.slice Ax nx cx, xe)])) ∧ Hid (MapOf D2 (ms2.map (·.2))) ∧
            Hid (GroupsMem wx (w.heap.size + 2) op (.slice Ag ms2.length cg) ms2) ∧ Hid (wx.ownsMap Tryz.prog 9 (plainElem Tryz.prog 3) (w.heap.size + 1) ms2.length D2) ∧
            Hid (Blk wx w.heap.size 27 #[.string ob, .bool wo, .slice A' m c', .float .f64 param, .string text]) ∧ Hid (Blk wx eb 43 #[.slice Ax nx cx, .float .f64 xe.2]) ∧
            Hid (RowKit.Below w.heap.size w wx) ∧ eb + 1 ≤ wx.heap.size)
          case first =>
            cases hv with
            | true =>
              go_wp2_with fail
              go_meet
              case rel =>
                have hin : own ∈ keysOf (ms.map (·.2)) := by have := (HMAP.out.at_ own).1; rw [HHV.out] at this; exact of_decide_eq_true this.symm
                obtain ⟨i, hik, hi⟩ := List.mem_iff_getElem.1 hin
                have hil : i < (ms.map (·.2)).length := by simpa [keysOf] using hik
                have hat := (HMAP.out.at_ own).2 i (by rw [List.getElem?_eq_getElem hik, hi])
                rw [HAT.out] at hat
                have hci : cc = i := by injection hat with h1; injection h1
                have hi1 : ((ms.map (fun q : GM × Grp => q.2))[i]'hil).1 = own := by rw [← hi]; simp [keysOf]
                refine ⟨ms, D, i, ((ms.map (fun q : GM × Grp => q.2))[i]'hil).2, Ag, cg, rfl, by rw [hci], by simpa using hil, ⟨?_, addTo_at _ HND.out hil hi1⟩, HMAP.out, HG5.out, HMO5.out, HBOX5.out, HNB5.out, HBW5.out, hs5⟩
                rw [List.getElem?_eq_getElem hil, ← hi1]
            | false =>
              have hlen : ms.length ≤ 1048576 := by
                have h1 := congrArg List.length HMS.out
                rw [List.length_map] at h1
                have h2 := groupsOf_length (fun x : Value × El => keepP x.2.1 names wo) (vs.take k)
                rw [List.length_take] at h2
                omega
              obtain ⟨p0, pi, pz0, pz1, pz2⟩ := info_parts infoPtr
              have hw5 : w.heap.size + 2 ≤ w5.heap.size := by omega
              have HOWN5 := Lib.hid (own_below HOWN3.out HB5.out)
              have hop := sum_shape op
              rcases hop with ⟨T, hT⟩ | hT
              all_goals
                have HSH := Lib.hid hT
                clear hT
              · go_wp2_with (first
                  | (at_mapUpdate
                     refine wpList_mapUpdate_own _ rfl _ _ _ 108 rfl 9 3 strKeyed Tryz.underlying108 _ (w.heap.size + 1) ms.length D rfl HMO5.out (by unfold maxLen; omega) _ _ (klOf own) rfl rfl hkey _ [] (plainElem_int Tryz.underlying3 (Go.WalkArith.wf_i64 (by omega))) ?_
                     intro w6 hown6 hg6
                     have HBX6 : Blk w6 w.heap.size 27 #[.string ob, .bool wo, .slice A' m c', .float .f64 param, .string text] := HBOX5.out.grown hg6 (by simp)
                     have b0 : w6.cell? ⟨w.heap.size, 0, none⟩ = some (.string ob) := HBX6.cell 0
                     have b1 : w6.cell? ⟨w.heap.size, 1, none⟩ = some (.bool wo) := HBX6.cell 1
                     have b2 : w6.cell? ⟨w.heap.size, 2, none⟩ = some (.slice A' m c') := HBX6.cell 2
                     have b3 : w6.cell? ⟨w.heap.size, 3, none⟩ = some (.float .f64 param) := HBX6.cell 3
                     have b4 : w6.cell? ⟨w.heap.size, 4, none⟩ = some (.string text) := HBX6.cell 4
                     have HBOX6 := Lib.hid HBX6
                     have HG6 := Lib.hid (HG5.out.kept hg6 (fun r e => .inl (by injection e with e; omega)))
                     have HNB6 := Lib.hid (HNB5.out.grown hg6 (by simp; omega))
                     have HBW6 := Lib.hid (HBW5.out.grown hg6 HBW5.out.size (by intro q hq; injection hq with hq; omega))
                     have HOWN6 := Lib.hid (HOWN5.out.kept hg6 (.inr (by intro e; have := (row_lt HOWN5.out e).1; omega)))
                     have hs6 : w5.heap.size ≤ w6.heap.size := hg6.size
                     have HMO6 := Lib.hid hown6
                     clear HBX6 hg6 hown6)
                  | (go_at_call 31
                     refine (HBG.out _).mono ?_
                     rintro e w7 ⟨sv, sb, rfl, hsum, hsb, hb7⟩
                     have HSUM := Lib.hid hsum
                     have HB7 := Lib.hid hb7
                     have hs7 : w6.heap.size ≤ w7.heap.size := hb7.size
                     obtain rfl := HSH.out _ _ _ _ hsum
                     clear hsum hb7
                     have ee : (w7.alloc (.cells #[.slice Ao own.length co, .slice none 0 0, (.iface T (.pointer (some ⟨sb, 0, none⟩)))] 78)).heap.size = w7.heap.size + 1 := by simp
                     have HOG := Lib.hid (((HG6.out.below HB7.out).1).alloc (.cells #[.slice Ao own.length co, .slice none 0 0, (.iface T (.pointer (some ⟨sb, 0, none⟩)))] 78)))
                  | (at_builtin
                     refine wpList_append_own _ rfl _ _ _ rfl (w.heap.size + 2) 75 p0 (.pointer none) 1 8 Tryz.underlying73 pi pz0 pz1 pz2 rfl (by decide) _ ms.length _ rfl (HOG.out.alloc _) ⟨w7.heap.size + 1, 0, none⟩ 1 1 [.pointer (some ⟨w7.heap.size, 0, none⟩)] rfl rfl (new_cells _ _ _ _ ee.symm) (by simp [Value.oneCell']) (by unfold maxLen; omega) (by omega) (by rw [World.size_alloc, ee]; omega) ?_
                     intro v9 w9 hown9 hg9 _))
                go_meet
                case rel =>
                  obtain ⟨A9, c9, rfl⟩ := own_form hown9
                  have hin : own ∉ keysOf (ms.map (·.2)) := by have := (HMAP.out.at_ own).1; rw [HHV.out] at this; exact of_decide_eq_false this.symm
                  have hsum := HSUM.out
                  have hb7 := HB7.out
                  have hg9' := hg9.size
                  rw [World.size_alloc, ee] at hg9'
                  have hb6 := HBW6.out.size
                  refine ⟨ms ++ [(⟨w7.heap.size, .slice Ao own.length co, .slice none 0 0, (.iface T (.pointer (some ⟨sb, 0, none⟩))), sb⟩, (own, []))], D.put (klOf own) (.lit (.int .i64 ms.length)), ms.length, [], A9, c9, by rw [List.length_append]; rfl, rfl, by simp, ⟨by simp, ?_⟩, ?_, ?_, ?_, ?_, ?_, ?_, by omega⟩
                  · rw [addTo_new _ hin]; simp
                  · have := HMAP.out.put hin []
                    rw [List.length_map] at this
                    rw [List.map_append]
                    exact this
                  · rw [show (ms ++ [((⟨w7.heap.size, .slice Ao own.length co, .slice none 0 0, (.iface T (.pointer (some ⟨sb, 0, none⟩))), sb⟩ : GM), ((own, []) : Grp))]).length = ms.length + 1 from by simp]
                    exact (HG6.out.below hb7).push (by omega) (own_below HOWN6.out hb7) (hsum.mono (by omega)) (fun x hx e => by
                      have h1 := (sum_blk (HG6.out.2.1 x hx).2.2.2.2).2
                      obtain ⟨_, h1⟩ := h1
                      have := h1.lt
                      have := (sum_blk hsum).1
                      omega) hown9 hg9
                  · rw [show (ms ++ [((⟨w7.heap.size, .slice Ao own.length co, .slice none 0 0, (.iface T (.pointer (some ⟨sb, 0, none⟩))), sb⟩ : GM), ((own, []) : Grp))]).length = ms.length + 1 from by simp]
                    exact (((HMO6.out.kept (grown_of_below hb7) (by simp)).alloc _).alloc _).kept hg9 (fun e => by have := (row_lt HOG.out e.symm).1; omega)
                  · exact (((HBOX6.out.below hb7 (by omega)).alloc _).alloc _).grown hg9 (fun e => by have := (row_lt HOG.out e.symm).1; omega)
                  · exact (((HNB6.out.below hb7 (by omega)).alloc _).alloc _).grown hg9 (fun e => by have := (ElT.of_row HOG.out e.symm).same ⟨_, ((HNB6.out.below hb7 (by omega)).alloc _)⟩; cases this)
                  · exact (((HBW6.out.trans (hb7.mono (by omega))).alloc (by omega) _).alloc (by rw [ee]; omega) _).grown hg9 (by rw [World.size_alloc, ee]; omega) (fun q hq => by have := (row_lt HOG.out hq).1; omega)
              · go_wp2_with (first
                  | (at_mapUpdate
                     refine wpList_mapUpdate_own _ rfl _ _ _ 108 rfl 9 3 strKeyed Tryz.underlying108 _ (w.heap.size + 1) ms.length D rfl HMO5.out (by unfold maxLen; omega) _ _ (klOf own) rfl rfl hkey _ [] (plainElem_int Tryz.underlying3 (Go.WalkArith.wf_i64 (by omega))) ?_
                     intro w6 hown6 hg6
                     have HBX6 : Blk w6 w.heap.size 27 #[.string ob, .bool wo, .slice A' m c', .float .f64 param, .string text] := HBOX5.out.grown hg6 (by simp)
                     have b0 : w6.cell? ⟨w.heap.size, 0, none⟩ = some (.string ob) := HBX6.cell 0
                     have b1 : w6.cell? ⟨w.heap.size, 1, none⟩ = some (.bool wo) := HBX6.cell 1
                     have b2 : w6.cell? ⟨w.heap.size, 2, none⟩ = some (.slice A' m c') := HBX6.cell 2
                     have b3 : w6.cell? ⟨w.heap.size, 3, none⟩ = some (.float .f64 param) := HBX6.cell 3
                     have b4 : w6.cell? ⟨w.heap.size, 4, none⟩ = some (.string text) := HBX6.cell 4
                     have HBOX6 := Lib.hid HBX6
                     have HG6 := Lib.hid (HG5.out.kept hg6 (fun r e => .inl (by injection e with e; omega)))
                     have HNB6 := Lib.hid (HNB5.out.grown hg6 (by simp; omega))
                     have HBW6 := Lib.hid (HBW5.out.grown hg6 HBW5.out.size (by intro q hq; injection hq with hq; omega))
                     have HOWN6 := Lib.hid (HOWN5.out.kept hg6 (.inr (by intro e; have := (row_lt HOWN5.out e).1; omega)))
                     have hs6 : w5.heap.size ≤ w6.heap.size := hg6.size
                     have HMO6 := Lib.hid hown6
                     clear HBX6 hg6 hown6)
                  | (go_at_call 31
                     refine (HBG.out _).mono ?_
                     rintro e w7 ⟨sv, sb, rfl, hsum, hsb, hb7⟩
                     have HSUM := Lib.hid hsum
                     have HB7 := Lib.hid hb7
                     have hs7 : w6.heap.size ≤ w7.heap.size := hb7.size
                     obtain rfl := HSH.out _ _ _ _ hsum
                     clear hsum hb7
                     have ee : (w7.alloc (.cells #[.slice Ao own.length co, .slice none 0 0, .nilIface] 78)).heap.size = w7.heap.size + 1 := by simp
                     have HOG := Lib.hid (((HG6.out.below HB7.out).1).alloc (.cells #[.slice Ao own.length co, .slice none 0 0, .nilIface] 78)))
                  | (at_builtin
                     refine wpList_append_own _ rfl _ _ _ rfl (w.heap.size + 2) 75 p0 (.pointer none) 1 8 Tryz.underlying73 pi pz0 pz1 pz2 rfl (by decide) _ ms.length _ rfl (HOG.out.alloc _) ⟨w7.heap.size + 1, 0, none⟩ 1 1 [.pointer (some ⟨w7.heap.size, 0, none⟩)] rfl rfl (new_cells _ _ _ _ ee.symm) (by simp [Value.oneCell']) (by unfold maxLen; omega) (by omega) (by rw [World.size_alloc, ee]; omega) ?_
                     intro v9 w9 hown9 hg9 _))
                go_meet
                case rel =>
                  obtain ⟨A9, c9, rfl⟩ := own_form hown9
                  have hin : own ∉ keysOf (ms.map (·.2)) := by have := (HMAP.out.at_ own).1; rw [HHV.out] at this; exact of_decide_eq_false this.symm
                  have hsum := HSUM.out
                  have hb7 := HB7.out
                  have hg9' := hg9.size
                  rw [World.size_alloc, ee] at hg9'
                  have hb6 := HBW6.out.size
                  refine ⟨ms ++ [(⟨w7.heap.size, .slice Ao own.length co, .slice none 0 0, .nilIface, sb⟩, (own, []))], D.put (klOf own) (.lit (.int .i64 ms.length)), ms.length, [], A9, c9, by rw [List.length_append]; rfl, rfl, by simp, ⟨by simp, ?_⟩, ?_, ?_, ?_, ?_, ?_, ?_, by omega⟩
                  · rw [addTo_new _ hin]; simp
                  · have := HMAP.out.put hin []
                    rw [List.length_map] at this
                    rw [List.map_append]
                    exact this
                  · rw [show (ms ++ [((⟨w7.heap.size, .slice Ao own.length co, .slice none 0 0, .nilIface, sb⟩ : GM), ((own, []) : Grp))]).length = ms.length + 1 from by simp]
                    exact (HG6.out.below hb7).push (by omega) (own_below HOWN6.out hb7) (hsum.mono (by omega)) (fun x hx e => by
                      have h1 := (sum_blk (HG6.out.2.1 x hx).2.2.2.2).2
                      obtain ⟨_, h1⟩ := h1
                      have := h1.lt
                      have := (sum_blk hsum).1
                      omega) hown9 hg9
                  · rw [show (ms ++ [((⟨w7.heap.size, .slice Ao own.length co, .slice none 0 0, .nilIface, sb⟩ : GM), ((own, []) : Grp))]).length = ms.length + 1 from by simp]
                    exact (((HMO6.out.kept (grown_of_below hb7) (by simp)).alloc _).alloc _).kept hg9 (fun e => by have := (row_lt HOG.out e.symm).1; omega)
                  · exact (((HBOX6.out.below hb7 (by omega)).alloc _).alloc _).grown hg9 (fun e => by have := (row_lt HOG.out e.symm).1; omega)
                  · exact (((HNB6.out.below hb7 (by omega)).alloc _).alloc _).grown hg9 (fun e => by have := (ElT.of_row HOG.out e.symm).same ⟨_, ((HNB6.out.below hb7 (by omega)).alloc _)⟩; cases this)
                  · exact (((HBW6.out.trans (hb7.mono (by omega))).alloc (by omega) _).alloc (by rw [ee]; omega) _).grown hg9 (by rw [World.size_alloc, ee]; omega) (fun q hq => by have := (row_lt HOG.out hq).1; omega)
          case rest =>
            obtain ⟨ms2, D2, i, l, Ag2, cg2, rfl, rfl, hi2, HSET, HMAP2, HGC, HMOC, HBOXC, HNBC, HBWC, hsc⟩ := hcut
            have hil : i < ms2.length := hi2
            obtain ⟨mi, hmi⟩ : ∃ mi, ms2[i] = mi := ⟨_, rfl⟩
            have hmem : mi ∈ ms2 := by rw [← hmi]; exact List.getElem_mem _
            have hat := HGC.out.2.1 mi hmem
            obtain ⟨Ae, ce, hev⟩ := own_form hat.2.2.2.1
            obtain ⟨bg, og, hAg, hbg, hcg⟩ := (Reads.of_own HGC.out.1).at_ hi2
            cases hAg
            have r0 : wc.cell? ⟨bg, og + i, none⟩ = some (.pointer (some ⟨mi.1.b, 0, none⟩)) := hcg i _ (by rw [List.getElem?_map, List.getElem?_eq_getElem hi2, hmi]; rfl)
            have r1 : wc.cell? ⟨mi.1.b, 1, none⟩ = some (.slice Ae mi.2.2.length ce) := by rw [hat.2.1.cell 1, hev]; rfl
            have r2 : wc.cell? ⟨eb, 0, none⟩ = some (.slice Ax nx cx) := HNBC.out.cell 0
            have r3 : wc.cell? ⟨eb, 1, none⟩ = some (.float .f64 xe.2) := HNBC.out.cell 1
            have hbl2 : mi.1.b < wc.heap.size := hat.2.1.lt
            have heb2 : eb < wc.heap.size := by omega
            have hlen2 : mi.2.2.length ≤ 1048576 := by
              have hm2 : mi.2 = (own, l) := by
                have := HSET.out.1
                rw [List.getElem?_map, List.getElem?_eq_getElem hi2, hmi] at this
                simpa using this
              have h1 : (own, l ++ [(Value.slice Ax nx cx, xe)]) ∈ groupsOf (fun x : Value × El => keepP x.2.1 names wo) (vs.take (k + 1)) := by
                rw [HGS.out, ← HMS.out, HSET.out.2]
                exact List.mem_set (by simpa using hi2) _
              have h2 := groupsOf_mem_length _ _ _ h1
              rw [List.length_take] at h2
              rw [hm2]
              simp at h2
              show l.length ≤ _
              omega
            have HAT2 := Lib.hid hat
            have HMI := Lib.hid hmi
            have HMEM := Lib.hid hmem
            have HEV := Lib.hid hev
            have HOE : Hid (wc.ownsRow (w.heap.size + 2) 43 2 (.slice Ae mi.2.2.length ce) mi.2.2.length (cellsE mi.2.2)) := by have := hat.2.2.2.1; rw [hev] at this; exact this
            have hq0 : (0 : Int) ≤ (i : Int) := by omega
            have hq1 : (i : Int) < (ms2.length : Int) := by omega
            have hq2 : ((i : Int)).toNat = i := by omega
            clear hat hev hmi hmem hcg
            have HRW : Hid (Reads (wc.alloc (.cells #[.slice Ax nx cx, .float .f64 xe.2] 43)).drew (wc.heap.size + 1) 2 (some ⟨wc.heap.size, 0, none⟩) 1 [.slice Ax nx cx, .float .f64 xe.2]) :=
              ⟨by simp, fun _ => ⟨_, _, rfl, by omega, fun j u hu => by have := new_cells wc #[.slice Ax nx cx, .float .f64 xe.2] 43 wc.heap.size rfl j u hu; rw [add_mk] at this; exact this⟩⟩
            have HBI : Hid (Blk (wc.alloc (.cells #[.slice Ax nx cx, .float .f64 xe.2] 43)).drew mi.1.b 78 #[mi.1.lv, .slice Ae mi.2.2.length ce, mi.1.sv]) := by
              have := HAT2.out.2.1
              rw [HEV.out] at this
              exact (this.alloc _).drew
            have HBGT : Hid (ElT (wc.alloc (.cells #[.slice Ax nx cx, .float .f64 xe.2] 43)).drew bg 75) := elT_alloc (ElT.of_row HGC.out.1 rfl) _
            have HR0 : Hid ((wc.alloc (.cells #[.slice Ax nx cx, .float .f64 xe.2] 43)).drew.cell? ⟨bg, og + i, none⟩ = some (.pointer (some ⟨mi.1.b, 0, none⟩))) := (World.cell?_alloc_lt wc _ ⟨bg, og + i, none⟩ hbg).trans r0
            have HSZ : Hid ((wc.alloc (.cells #[.slice Ax nx cx, .float .f64 xe.2] 43)).drew.heap.size = wc.heap.size + 1) := by show _ = _; exact World.size_alloc _ _
            have HB2 : Hid (w.heap.size + 2 ≤ (wc.alloc (.cells #[.slice Ax nx cx, .float .f64 xe.2] 43)).drew.heap.size) := by show _ ≤ _; rw [HSZ.out]; omega
            go_upto_region 21 with fail
            apply wp_frame (R := fun A10 c10 w10 wx => wx = w10.setCell ⟨mi.1.b, 1, none⟩ (.slice A10 (mi.2.2.length + 1) c10) ∧
              Hid (w10.ownsRow (w.heap.size + 2) 43 2 (.slice A10 (mi.2.2.length + 1) c10) (mi.2.2.length + 1) (cellsE mi.2.2 ++ [.slice Ax nx cx, .float .f64 xe.2])) ∧
              Hid ((wc.alloc (.cells #[.slice Ax nx cx, .float .f64 xe.2] 43)).drew.grownBy w10 (Value.ownBlock (.slice Ae mi.2.2.length ce))) ∧
              Hid (Value.ownBlock (.slice A10 (mi.2.2.length + 1) c10) = Value.ownBlock (.slice Ae mi.2.2.length ce) ∨ Value.ownBlock (.slice A10 (mi.2.2.length + 1) c10) = some (wc.heap.size + 1)) ∧
              Hid (Blk w10 mi.1.b 78 #[mi.1.lv, .slice Ae mi.2.2.length ce, mi.1.sv]))
            case hreg =>
              go_region_law ((refine step_append_any _ rfl (.tmp 91) (.tmp 93) _ rfl (w.heap.size + 2) 43 i0 _ 2 32 Tryz.underlying28 hi hz0 hz1 hz2 rfl (by decide) _ mi.2.2.length _ rfl (HOE.out.alloc _).drew (wc.heap.size + 1) (some ⟨wc.heap.size, 0, none⟩) 1 1 [.slice Ax nx cx, .float .f64 xe.2] rfl HRW.out (by simp [Value.oneCell']) (by unfold maxLen; omega) (by omega) HB2.out ?_
                              intro v10 w10 hown10 hg10 hor10
                              obtain ⟨A10, c10, rfl⟩ := own_form hown10
                              have HBK : Blk w10 mi.1.b 78 #[mi.1.lv, .slice Ae mi.2.2.length ce, mi.1.sv] := HBI.out.grown hg10 (fun e => by have := (ElT.of_row (HOE.out.alloc _).drew e.symm).same ⟨_, HBI.out⟩; cases this)
                              have x1 : w10.cell? ⟨mi.1.b, 1, none⟩ = some (.slice Ae mi.2.2.length ce) := HBK.cell 1
                              have x2 : w10.frozen? ⟨mi.1.b, 1, none⟩ = false := HBK.frozen 1
                              have x0 : w10.cell? ⟨bg, og + i, none⟩ = some (.pointer (some ⟨mi.1.b, 0, none⟩)) := hg10.cell HR0.out (fun e => by have := (ElT.of_row (HOE.out.alloc _).drew e.symm).same HBGT.out; cases this)
                              have HOWN10 := Lib.hid hown10
                              have HG10 := Lib.hid hg10
                              have HOR10 := Lib.hid hor10
                              have HBK10 := Lib.hid HBK
                              clear HBK hg10 hor10 hown10))
              all_goals
                exact OnlyNormal.mk ⟨A10, c10, w10, rfl, rfl, HOWN10.out, HG10.out, by show _ ∨ _; rw [← HSZ.out]; exact HOR10.out, HBK10.out⟩
            case himp =>
              rintro A10 c10 w10 wx ⟨rfl, HOWN10, HG10, HOR10, HBK10⟩
              go_wp2_with fail
              go_roundw
              case rel =>
                have hm2 : mi.2 = (own, l) := by
                  have := HSET.out.1
                  rw [List.getElem?_map, List.getElem?_eq_getElem hi2, HMI.out] at this
                  simpa using this
                have hne2 : ∀ q, Value.ownBlock (.slice Ae mi.2.2.length ce) = some q → w.heap.size + 2 ≤ q := fun q hq => (row_lt HOE.out hq).1
                have hb2 := HAT2.out.1
                have hs := Lib.grownBy_setCell w10 mi.1.b 1 (.slice A10 (mi.2.2.length + 1) c10)
                have hsz10 := HG10.out.size
                rw [HSZ.out] at hsz10
                refine ⟨k + 1, ms2.set i (⟨mi.1.b, mi.1.lv, .slice A10 (mi.2.2.length + 1) c10, mi.1.sv, mi.1.sb⟩, (mi.2.1, mi.2.2 ++ [(.slice Ax nx cx, xe)])), D2, by omega, by go_num, ?_, ?_, ?_, ?_, ?_, ?_, ?_⟩
                · show _ = _
                  rw [HGS.out, ← HMS.out, HSET.out.2, List.map_set, hm2]
                · refine HMAP2.out.turned ?_
                  rw [List.map_set, hm2]
                  exact keysOf_set HSET.out.1 _
                · have ht := HGC.out.touch (x := (.slice Ax nx cx, xe)) hi2 HMI.out (by rw [HEV.out]; exact HG10.out) HOWN10.out (by rw [HEV.out]; exact HOR10.out)
                  show GroupsMem _ _ _ (.slice (some ⟨bg, og, none⟩) ms2.length cg2) _
                  exact ht
                · rw [List.length_set]
                  exact ((HMOC.out.alloc _).drew.kept HG10.out (fun e => by have := hne2 _ e.symm; omega)).kept hs (fun e => by injection e with e; omega)
                · exact (Blk.grown (w := (wc.alloc _).drew) (HBOXC.out.alloc _).drew HG10.out (fun e => by have := hne2 _ e.symm; omega)).grown hs (fun e => by injection e with e; omega)
                · exact (Below.grown (HBWC.out.alloc HBWC.out.size _).drew HG10.out (by rw [HSZ.out]; have := HBWC.out.size; omega) (fun q hq => by have := hne2 q hq; omega)).grown hs (by have := HBWC.out.size; omega) (fun q hq => by injection hq with hq; omega)
                · have := hs.size; omega
              case measure => simp [intOf]; omega
    · have hkn : k = n := by omega
      subst hkn
      have HE : Hid (vs.take k = vs) := List.take_of_length_le (by have := HL0.out; omega)
      go_wp2_with fail
      go_ret
      refine ⟨_, ms, rfl, HG.out.mono (by omega), ?_, hb⟩
      rw [HMS.out, HE.out]
end Go.Proofs.YtefdoineacfbhaaGreatDoor
