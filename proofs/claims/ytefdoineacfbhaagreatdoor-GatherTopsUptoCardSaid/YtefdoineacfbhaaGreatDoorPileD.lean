/- The pile: an entry goes down. -/
import Derived.Test.YtefdoineacfbhaaGreatDoorPileU
namespace Go.Proofs.YtefdoineacfbhaaGreatDoor
open Go Go.Proofs Go.Shelf Go.RowKit Go.Lib Go.Sort

section
variable {α : Type} {lt : α → α → Bool}
/-- The choice between a place and the first t of its kids. -/
def PickF (lt : α → α → Bool) (n : Nat) (f : Nat → α) (i t m : Nat) : Prop :=
  (m = i ∨ (0 < m ∧ m < n ∧ (m - 1) / 2 = i ∧ lt (f m) (f i) = true)) ∧ ∀ k, k < t → 2 * i + 1 + k < n → lt (f (2 * i + 1 + k)) (f m) = false
theorem pick_start (n : Nat) (f : Nat → α) (i : Nat) : PickF lt n f i 0 i := ⟨.inl rfl, fun k hk => by omega⟩
theorem pick_skip {n : Nat} {f : Nat → α} {i t m : Nat} (h : PickF lt n f i t m) (hk : 2 * i + 1 + t < n → lt (f (2 * i + 1 + t)) (f m) = false) : PickF lt n f i (t + 1) m := by
  refine ⟨h.1, fun k h1 h2 => ?_⟩
  by_cases e : k = t
  · subst e; exact hk h2
  · exact h.2 k (by omega) h2
theorem pick_take (hO : SWO lt) {n : Nat} {f : Nat → α} {i t m : Nat} (h : PickF lt n f i t m) (ht : t < 2) (hn : 2 * i + 1 + t < n) (hl : lt (f (2 * i + 1 + t)) (f m) = true) : PickF lt n f i (t + 1) (2 * i + 1 + t) := by
  refine ⟨.inr ⟨by omega, hn, by omega, ?_⟩, fun k h1 h2 => ?_⟩
  · rcases h.1 with e | ⟨_, _, _, e⟩
    · subst e; exact hl
    · exact hO.trans _ _ _ hl e
  · by_cases e : k = t
    · subst e; exact hO.irrefl _
    · have := h.2 k (by omega) h2
      cases hq : lt (f (2 * i + 1 + k)) (f (2 * i + 1 + t)) with
      | false => rfl
      | true => rw [hO.trans _ _ _ hq hl] at this; cases this
theorem pick_kids {n : Nat} {f : Nat → α} {i m : Nat} (h : PickF lt n f i 2 m) : ∀ k, 0 < k → k < n → (k - 1) / 2 = i → lt (f k) (f m) = false := by
  intro k h0 hn hk
  obtain ⟨t, ht, rfl⟩ : ∃ t, t < 2 ∧ k = 2 * i + 1 + t := ⟨k - (2 * i + 1), by omega, by omega⟩
  exact h.2 t ht hn
end

set_option maxHeartbeats 4000000 in
theorem down_any (B : Nat) (op : Agg) (f p : Nat) (gv : Value) (nx : Nat) (es : List Ent) (i : Nat) (hi : i ≤ es.length) (hn : es.length ≤ 2097152) (w : World)
    (hE : EnvW w B op f) (hP : PileAt w B p f gv nx es) (hU : DownF (aheadP (isTop op)) es.length (fE es) i) :
    Calls Tryz.prog 141 #[.pointer (some ⟨p, 0, none⟩), .int .i64 i] w fun e w' => e = .returned (.tuple #[]) ∧
      ∃ es', es'.Perm es ∧ HeapF (aheadP (isTop op)) es.length (fE es') ∧ PileAt w' B p f gv nx es' ∧ w.grownBy w' gv.ownBlock := by
  have HE := Lib.hid hE
  have HB := Lib.hid hP.base
  have HP := Lib.hid hP
  have HU := Lib.hid hU
  clear hE hP hU
  go_enter Tryz.func141, Tryz.ntmps141
  go_wp2_with fail
  go_loopw [1] (fun iv wr => ∃ (j : Nat) (xs : List Ent), iv = .int .i64 j ∧ j ≤ es.length ∧ Hid (xs.Perm es ∧ DownF (aheadP (isTop op)) es.length (fE xs) j) ∧ Hid (PileAt wr B p f gv nx xs) ∧ Hid (w.grownBy wr gv.ownBlock)) (fun iv _ => es.length - (intOf iv).toNat)
  case atStart => exact ⟨i, es, rfl, hi, ⟨List.Perm.refl _, HU.out⟩, HP.out, World.grownBy.refl _ _⟩
  case round =>
    obtain ⟨j, xs, rfl, hj, HX, HPX, HG⟩ := hrel
    have hxl : xs.length = es.length := HX.out.1.length_eq
    have HA : Hid (∀ (a b : Nat) (W : World) (x y : Int), a < es.length → b < es.length → x = a → y = b → RowKit.Below wr.heap.size wr W → Calls Tryz.prog 157 #[.pointer (some ⟨p, 0, none⟩), .int .i64 x, .int .i64 y] W
        fun e w' => e = .returned (.bool (aheadP (isTop op) (fE xs a) (fE xs b))) ∧ Grows W w') := by
      intro a b W x y ha hb2 hx hy hb
      subst hx hy
      rw [fE_at (by omega), fE_at (by omega)]
      exact ahead_any B op f p gv nx xs a b (by omega) (by omega) W ((HE.out.grown HG.out HB.out).below (hb.mono (by have := HE.out.size; have := HG.out.size; omega))) (HPX.out.below hb)
    obtain ⟨Av, cv, hgv⟩ := own_form HPX.out.2.2.1
    have p1 : wr.cell? ⟨p, 1, none⟩ = some (.slice Av es.length cv) := by rw [HPX.out.2.1.cell 1, hgv, hxl]; rfl
    have hpl := HPX.out.2.1.lt
    have P1 := Lib.hid p1
    have HXL := Lib.hid hxl
    clear hxl hgv p1
    obtain ⟨wo, rfl⟩ : ∃ wo : World, wo = wr := ⟨_, rfl⟩
    go_wp2_with fail
    go_loopw [4, 15] (fun mv tv wi => ∃ (m : Nat) (t : Int), (t = 0 ∨ t = 1 ∨ t = 2) ∧ mv = .int .i64 m ∧ tv = .int .i64 t ∧ (m = j ∨ (j < m ∧ m < es.length)) ∧ Hid (PickF (aheadP (isTop op)) es.length (fE xs) j t.toNat m) ∧ Hid (RowKit.Below wo.heap.size wo wi)) (fun _ tv _ => 2 - (intOf tv).toNat)
    case atStart => exact ⟨j, 0, .inl rfl, rfl, rfl, .inl rfl, pick_start _ _ _, RowKit.Below.refl _ _⟩
    case round =>
      obtain ⟨m, t, ht, rfl, rfl, hm, HK, HBI⟩ := hrel
      have p1 : wr.cell? ⟨p, 1, none⟩ = some (.slice Av es.length cv) := (HBI.out.cell (p := ⟨p, 1, none⟩) hpl).trans P1.out
      rcases ht with rfl | rfl | rfl
      · have hix : ∀ w, (Instr.index 191 (.agg #[.int .i64 (2 * (j : Int) + 1), .int .i64 (2 * (j : Int) + 2)]) (.int .i64 0)).run Tryz.prog w = .ok (.int .i64 (2 * (j : Int) + 1)) w := fun _ => by kernel_rfl
        by_cases hk : 2 * j + 1 < es.length
        · cases hc : aheadP (isTop op) (fE xs (2 * j + 1)) (fE xs m) with
          | false =>
            have HC := Lib.hid hc
            clear hc
            go_wp2_with (go_at_call 157; refine (HA.out (2 * j + 1) m _ _ _ hk (by omega) (by omega) rfl HBI.out).mono ?_; rw [HC.out]; rintro e w2 ⟨rfl, hg2⟩)
            go_roundw
            case rel => exact ⟨m, 1, .inr (.inl rfl), rfl, rfl, hm, pick_skip HK.out (fun _ => HC.out), HBI.out.trans (hg2.below.mono HBI.out.size)⟩
            case measure => simp [intOf]
          | true =>
            have HC := Lib.hid hc
            clear hc
            go_wp2_with (go_at_call 157; refine (HA.out (2 * j + 1) m _ _ _ hk (by omega) (by omega) rfl HBI.out).mono ?_; rw [HC.out]; rintro e w2 ⟨rfl, hg2⟩)
            go_roundw
            case rel => exact ⟨2 * j + 1, 1, .inr (.inl rfl), by go_num, rfl, .inr ⟨by omega, hk⟩, pick_take (aheadP_swo _) HK.out (by decide) hk HC.out, HBI.out.trans (hg2.below.mono HBI.out.size)⟩
            case measure => simp [intOf]
        · go_wp2_with fail
          go_roundw
          case rel => exact ⟨m, 1, .inr (.inl rfl), rfl, rfl, hm, pick_skip HK.out (fun h => absurd h hk), HBI.out⟩
          case measure => simp [intOf]
      · have hix : ∀ w, (Instr.index 191 (.agg #[.int .i64 (2 * (j : Int) + 1), .int .i64 (2 * (j : Int) + 2)]) (.int .i64 1)).run Tryz.prog w = .ok (.int .i64 (2 * (j : Int) + 2)) w := fun _ => by kernel_rfl
        by_cases hk : 2 * j + 2 < es.length
        · cases hc : aheadP (isTop op) (fE xs (2 * j + 2)) (fE xs m) with
          | false =>
            have HC := Lib.hid hc
            clear hc
            go_wp2_with (go_at_call 157; refine (HA.out (2 * j + 2) m _ _ _ hk (by omega) (by omega) rfl HBI.out).mono ?_; rw [HC.out]; rintro e w2 ⟨rfl, hg2⟩)
            go_roundw
            case rel => exact ⟨m, 2, .inr (.inr rfl), rfl, rfl, hm, pick_skip HK.out (fun _ => HC.out), HBI.out.trans (hg2.below.mono HBI.out.size)⟩
            case measure => simp [intOf]
          | true =>
            have HC := Lib.hid hc
            clear hc
            go_wp2_with (go_at_call 157; refine (HA.out (2 * j + 2) m _ _ _ hk (by omega) (by omega) rfl HBI.out).mono ?_; rw [HC.out]; rintro e w2 ⟨rfl, hg2⟩)
            go_roundw
            case rel => exact ⟨2 * j + 2, 2, .inr (.inr rfl), by go_num, rfl, .inr ⟨by omega, hk⟩, pick_take (aheadP_swo _) HK.out (by decide) hk HC.out, HBI.out.trans (hg2.below.mono HBI.out.size)⟩
            case measure => simp [intOf]
        · go_wp2_with fail
          go_roundw
          case rel => exact ⟨m, 2, .inr (.inr rfl), rfl, rfl, hm, pick_skip HK.out (fun h => absurd h hk), HBI.out⟩
          case measure => simp [intOf]
      · by_cases hmj : m = j
        · subst hmj
          go_wp2_with fail
          refine bodyPost_ret (results_none rfl _ _ _) rfl ?_
          exact ⟨rfl, xs, HX.out.1, down_done HX.out.2 (pick_kids HK.out), HPX.out.below HBI.out, HG.out.trans (grown_any_of HBI.out _)⟩
        · have hne : ((m : Int) == (j : Int)) = false := by simp; omega
          have hml : j < m ∧ m < es.length := by omega
          have hjx : j < xs.length := by have := HXL.out; omega
          have hmx : m < xs.length := by have := HXL.out; omega
          have HS : Hid (∀ (W : World), RowKit.Below wo.heap.size wo W → Calls Tryz.prog 140 #[.pointer (some ⟨p, 0, none⟩), .int .i64 j, .int .i64 m] W
              fun e w' => e = .returned (.tuple #[]) ∧ PileAt w' B p f gv nx (swapL xs j m hjx hmx) ∧ W.grownBy w' gv.ownBlock) := by
            intro W hb
            exact swap_any B f p gv nx xs j m hjx hmx W (HPX.out.below hb)
          go_wp2_with (go_at_call 140; refine (HS.out _ HBI.out).mono ?_; rintro e w3 ⟨rfl, hp3, hg3⟩; have HG3 := Lib.hid hg3; have HP3 := Lib.hid hp3; clear hg3 hp3)
          go_roundw
          case rel =>
            refine ⟨m, _, rfl, by omega, ⟨(swapL_perm xs j m hjx hmx).trans HX.out.1, ?_⟩, HP3.out, (HG.out.trans (grown_any_of HBI.out _)).trans HG3.out⟩
            rw [fE_swap]
            rcases HK.out.1 with e | ⟨h1, h2, h3, h4⟩
            · omega
            · exact down_step (aheadP_swo _) HX.out.2 h3 h1 h2 h4 (pick_kids HK.out)
          case measure => simp [intOf]; omega
end Go.Proofs.YtefdoineacfbhaaGreatDoor
