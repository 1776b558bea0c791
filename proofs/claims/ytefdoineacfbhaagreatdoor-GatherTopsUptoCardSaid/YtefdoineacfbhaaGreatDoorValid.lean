/- What labels.Valid computes. -/
import Derived.Test.YtefdoineacfbhaaGreatDoorUtf
import Derived.BigQuiet
namespace Go.Proofs.YtefdoineacfbhaaGreatDoor
open Go.RowKit Go.Sort

def ltB (a b : ByteArray) : Bool := Op.bytesLess a.toList b.toList
/-- A label that may stand in a set. -/
def lbOk (l : Lb) : Bool := isLabelP l.1 && (!l.2.toList.isEmpty && utfValidP l.2)
/-- Is the name of l above the one ahead of it? -/
def aboveB (p : Option Lb) (l : Lb) : Bool := match p with
  | none => true
  | some q => ltB q.1 l.1
def validFrom : Option Lb → List Lb → Bool
  | _, [] => true
  | p, l :: r => lbOk l && (aboveB p l && validFrom (some l) r)
/-- Is the list a label set? (As labels.Valid asks.) -/
def labelsValid (ls : List Lb) : Bool := validFrom none ls

theorem validFrom_at (ls : List Lb) (p : Option Lb) (k : Nat) (h : k < ls.length) :
    validFrom p (ls.drop k) = (lbOk ls[k] && (aboveB p ls[k] && validFrom ls[k]? (ls.drop (k + 1)))) := by
  rw [List.drop_eq_getElem_cons h, validFrom, List.getElem?_eq_getElem h]

set_option maxHeartbeats 400000 in
set_option maxRecDepth 100000 in
theorem labelsValid_any (A : Option Addr) (n c : Nat) (ls : List Lb) (w : World) (h : Reads w w.heap.size 2 A n (cellsL ls)) (hn : n ≤ 1048576) (hsz : ∀ l ∈ ls, l.1.size ≤ 1048576 ∧ l.2.size ≤ 1048576) :
    Calls Tryz.prog 36 #[.slice A n c] w fun e w' => e = .returned (.bool (labelsValid ls)) ∧ Below w.heap.size w w' := by
  have hl : ls.length = n := by have := h.1; rw [cellsL_length] at this; omega
  have HR := Lib.hid h
  have HSZ := Lib.hid hsz
  clear h hsz
  go_enter Tryz.func36, Tryz.ntmps36
  go_wp2_with fail
  go_loopw [7] (fun i wr => ∃ k : Nat, k ≤ n ∧ i = .int .i64 k ∧ Hid (labelsValid ls = validFrom (if k = 0 then none else ls[k - 1]?) (ls.drop k)) ∧ Below w.heap.size w wr) (fun i _ => n - (intOf i).toNat)
  case atStart => exact ⟨0, by omega, by go_num, rfl, Below.refl _ _⟩
  case round =>
    obtain ⟨k, hk, rfl, HV, hb⟩ := hrel
    by_cases hlt : k < n
    · obtain ⟨b, off, rfl, hbl, hc⟩ := HR.out.at_ hlt
      have hx := cellsL_get ls k (by omega)
      have c0 := (hb.cell (p := ⟨b, off + k * 2, none⟩) hbl).trans (hc _ _ hx.1)
      have c1 := (hb.cell (p := ⟨b, off + k * 2 + 1, none⟩) hbl).trans (hc _ _ hx.2)
      obtain ⟨nm, hnm⟩ : ∃ x, ls[k].1 = x := ⟨_, rfl⟩
      obtain ⟨vl, hvl⟩ : ∃ x, ls[k].2 = x := ⟨_, rfl⟩
      have hkl : ls[k] = (nm, vl) := by rw [← hnm, ← hvl]
      have hsz := HSZ.out ls[k] (List.getElem_mem _)
      rw [hkl] at hsz
      obtain ⟨hs1, hs2⟩ := hsz
      dsimp only at hs1 hs2
      rw [hnm] at c0
      rw [hvl] at c1
      clear hnm hvl
      have hstep := HV.out.trans (validFrom_at ls _ k (by omega))
      rw [hkl] at hstep
      have HST := Lib.hid hstep
      have HCC := Lib.hid hc
      have HCC := Lib.hid hc
      have HCC := Lib.hid hc
      clear hstep HV hc hx hkl
      have ca : ∀ d os, Calls Tryz.prog 32 #[.string nm] (grow (redrawn (wr.alloc (.cells #[.string nm, .string vl] 46)) d) os) fun e w'' => e = .returned (.bool (isLabelP nm)) ∧ ∃ p : Regrown, w'' = grow (redrawn (wr.alloc (.cells #[.string nm, .string vl] 46)) p.d) p.os :=
        fun d os => Calls.regrown_of ((isLabel_any nm _ (by unfold maxLen; omega)).mono fun e w' ⟨he, hw⟩ => ⟨he, by subst hw; exact Below.refl _ _⟩)
      have cv : ∀ d os, Calls Tryz.prog 73 #[.string vl] (grow (redrawn (wr.alloc (.cells #[.string nm, .string vl] 46)) d) os) fun e w'' => e = .returned (.bool (utfValidP vl)) ∧ ∃ p : Regrown, w'' = grow (redrawn (wr.alloc (.cells #[.string nm, .string vl] 46)) p.d) p.os :=
        fun d os => Calls.regrown_of (valid_any vl _ (by omega))
      have k0 := cell_regrown (w := wr.alloc (.cells #[.string nm, .string vl] 46)) (a := ⟨wr.heap.size, 0, none⟩) (v := .string nm) (by simp)
      have k1 := cell_regrown (w := wr.alloc (.cells #[.string nm, .string vl] 46)) (a := ⟨wr.heap.size, 1, none⟩) (v := .string vl) (by simp)
      cases h1 : isLabelP nm with
      | false =>
        rw [h1] at ca
        have H1 := Lib.hid h1
        clear h1
        have CA := Lib.hid ca
        clear ca
        have CV := Lib.hid cv
        clear cv
        go_wp2_with fail
        refine wp_region_quiet_below (by kernel_rfl) (by kernel_rfl) ?_
        repeat (go_big_quiet_step (first | (go_at_call 32; exact CA.out _ _) | (go_at_call 73; exact CV.out _ _)))
        refine wpQuiet_nil ?_
        intro _ hw'
        obtain ⟨⟨dq, osq⟩, hw''⟩ := hw'
        subst hw''
        go_wp2
        go_ret
        exact ⟨ret_bool (by rw [HST.out]; simp [lbOk, aboveB, H1.out]), ((hb.alloc hb.size _).trans ((below_regrown _ dq osq).mono (by simp; have := hb.size; omega)))⟩
      | true =>
        rw [h1] at ca
        have H1 := Lib.hid h1
        clear h1
        have CA := Lib.hid ca
        clear ca
        cases h2 : vl.toList.isEmpty with
        | true =>
          have H2 : Hid (vl.toList.isEmpty = true) := h2
          have CV := Lib.hid cv
          clear cv
          go_wp2_with fail
          refine wp_region_quiet_below (by kernel_rfl) (by kernel_rfl) ?_
          repeat (go_big_quiet_step (first | (go_at_call 32; exact CA.out _ _) | (go_at_call 73; exact CV.out _ _)))
          refine wpQuiet_nil ?_
          intro _ hw'
          obtain ⟨⟨dq, osq⟩, hw''⟩ := hw'
          subst hw''
          go_wp2
          go_ret
          exact ⟨ret_bool (by rw [HST.out]; simp [lbOk, aboveB, H1.out, H2.out]), ((hb.alloc hb.size _).trans ((below_regrown _ dq osq).mono (by simp; have := hb.size; omega)))⟩
        | false =>
          have H2 : Hid (vl.toList.isEmpty = false) := h2
          cases h3 : utfValidP vl with
          | false =>
            rw [h3] at cv
            have H3 := Lib.hid h3
            clear h3
            have CV := Lib.hid cv
            clear cv
            go_wp2_with fail
            refine wp_region_quiet_below (by kernel_rfl) (by kernel_rfl) ?_
            repeat (go_big_quiet_step (first | (go_at_call 32; exact CA.out _ _) | (go_at_call 73; exact CV.out _ _)))
            refine wpQuiet_nil ?_
            intro _ hw'
            obtain ⟨⟨dq, osq⟩, hw''⟩ := hw'
            subst hw''
            go_wp2
            go_ret
            exact ⟨ret_bool (by rw [HST.out]; simp [lbOk, aboveB, H1.out, H2.out, H3.out]), ((hb.alloc hb.size _).trans ((below_regrown _ dq osq).mono (by simp; have := hb.size; omega)))⟩
          | true =>
            rw [h3] at cv
            have H3 := Lib.hid h3
            clear h3
            have CV := Lib.hid cv
            clear cv
            by_cases hk0 : k = 0
            · have hk0' : ¬ 0 < k := by omega
              have hd0 : decide (0 < k) = false := decide_eq_false hk0'
              clear hk0'
              have HK0 := Lib.hid hk0
              clear hk0
              go_wp2_with fail
              refine wp_region_quiet_below (by kernel_rfl) (by kernel_rfl) ?_
              repeat (go_big_quiet_step (first | (go_at_call 32; exact CA.out _ _) | (go_at_call 73; exact CV.out _ _)))
              refine wpQuiet_nil ?_
              intro _ hw'
              obtain ⟨⟨dq, osq⟩, hw''⟩ := hw'
              subst hw''
              go_wp2
              go_roundw
              case rel => exact ⟨k + 1, by omega, by go_num, by show _ = _; rw [HST.out]; simp [lbOk, aboveB, H1.out, H2.out, H3.out, HK0.out], (hb.alloc hb.size _).trans ((below_regrown _ dq osq).mono (by simp; have := hb.size; omega))⟩
              case measure => simp [intOf]; omega
            · obtain ⟨j, rfl⟩ : ∃ j, k = j + 1 := ⟨k - 1, by omega⟩
              have hd0 : decide ((0 : Int) < (j : Int) + 1) = true := decide_eq_true (by omega)
              clear hk0
              have hxj := (cellsL_get ls j (by omega)).1
              obtain ⟨pn, hpn⟩ : ∃ x, ls[j].1 = x := ⟨_, rfl⟩
              rw [hpn] at hxj
              have cj := (hb.cell (p := ⟨b, off + j * 2, none⟩) hbl).trans (HCC.out _ _ hxj)
              have HPN : Hid (ls[j].1 = pn) := hpn
              clear hxj hpn
              have kj := cell_regrown (w := wr.alloc (.cells #[.string nm, .string vl] 46)) (a := ⟨b, off + j * 2, none⟩) (v := .string pn) (by rw [World.cell?_alloc_lt _ _ _ (by show b < _; have := hb.size; omega)]; exact cj)
              have hw1 : IntKind.i64.wrap ((j : Int) + 1 - 1) = (j : Int) := by rw [IntKind.wrap_i64]; omega
              have hj0 : (0 : Int) ≤ (j : Int) := by omega
              have hj1 : (j : Int) < (n : Int) := by omega
              have hjt : ((j : Int)).toNat = j := by omega
              cases h4 : Op.bytesLess pn.toList nm.toList with
              | true =>
                have H4 : Hid (ltB pn nm = true) := h4
                go_wp2_with fail
                refine wp_region_quiet_below (by kernel_rfl) (by kernel_rfl) ?_
                repeat (go_big_quiet_step (first | (go_at_call 32; exact CA.out _ _) | (go_at_call 73; exact CV.out _ _)))
                refine wpQuiet_nil ?_
                intro _ hw'
                obtain ⟨⟨dq, osq⟩, hw''⟩ := hw'
                subst hw''
                go_wp2
                go_roundw
                case rel => exact ⟨j + 1 + 1, by omega, by go_num, by show _ = _; rw [HST.out]; simp [lbOk, aboveB, H1.out, H2.out, H3.out, List.getElem?_eq_getElem (show j < ls.length by omega), HPN.out, H4.out], (hb.alloc hb.size _).trans ((below_regrown _ dq osq).mono (by simp; have := hb.size; omega))⟩
                case measure => simp [intOf]; omega
              | false =>
                have H4 : Hid (ltB pn nm = false) := h4
                go_wp2_with fail
                refine wp_region_quiet_below (by kernel_rfl) (by kernel_rfl) ?_
                repeat (go_big_quiet_step (first | (go_at_call 32; exact CA.out _ _) | (go_at_call 73; exact CV.out _ _)))
                refine wpQuiet_nil ?_
                intro _ hw'
                obtain ⟨⟨dq, osq⟩, hw''⟩ := hw'
                subst hw''
                go_wp2
                go_ret
                exact ⟨ret_bool (by rw [HST.out]; simp [lbOk, aboveB, H1.out, H2.out, H3.out, List.getElem?_eq_getElem (show j < ls.length by omega), HPN.out, H4.out]), ((hb.alloc hb.size _).trans ((below_regrown _ dq osq).mono (by simp; have := hb.size; omega)))⟩
    · have hkn : k = n := by omega
      have HKN := Lib.hid hkn
      clear hkn
      go_wp2_with fail
      go_ret
      exact ⟨ret_bool (by rw [HV.out, List.drop_eq_nil_of_le (by have := HKN.out; omega)]; cases (if k = 0 then none else ls[k - 1]?) <;> rfl), hb⟩
end Go.Proofs.YtefdoineacfbhaaGreatDoor
