/- What labels.Keep computes: a new row of the labels that stay. -/
import Derived.Test.YtefdoineacfbhaaGreatDoorStays
namespace Go.Proofs.YtefdoineacfbhaaGreatDoor
open Go.RowKit Go.Sort

theorem infoLabel : (Tryz.prog.info? 46).map (fun i => (i.zero, i.size, i.bytes)) = some (some (.agg #[.string ⟨#[]⟩, .string ⟨#[]⟩]), 2, 32) := by kernel_rfl

set_option maxHeartbeats 400000 in
set_option maxRecDepth 100000 in
theorem keep_any (A : Option Addr) (n c : Nat) (B : Nat) (ls : List Lb) (A' : Option Addr) (m c' : Nat) (names : List ByteArray) (wo : Bool) (w : World)
    (h : Reads w w.heap.size 2 A n (cellsL ls)) (h' : Reads w w.heap.size 1 A' m (names.map .string)) (hn : n ≤ 1048576) (hm : m ≤ 1048576) :
    Calls Tryz.prog 18 #[.slice A n c, .slice A' m c', .bool wo] w fun e w' =>
      ∃ v, e = .returned v ∧ w'.ownsRow w.heap.size 46 2 v (keepP ls names wo).length (cellsL (keepP ls names wo)) ∧ Below w.heap.size w w' := by
  obtain ⟨i0, hi, hz0, hz1, hz2⟩ := info_parts infoLabel
  have hl : ls.length = n := by have := h.1; rw [cellsL_length] at this; omega
  have HR := Lib.hid h
  have HR' := Lib.hid h'
  clear h h'
  go_enter Tryz.func18, Tryz.ntmps18
  go_wp2_with (refine wpList_make_own _ rfl _ _ _ rfl w.heap.size 46 i0 _ 2 Tryz.underlying41 hi hz0 hz1 _ _ _ n rfl rfl rfl (by rw [hz2]; omega) (by unfold maxLen; omega) (Nat.le_refl _) ?_; intro w1 hown1 hg1)
  have HB1 : Below w.heap.size w w1 := (Below.refl _ _).grown hg1 (Nat.le_refl _) (by simp)
  go_loopw [7, 15] (fun v i wr => ∃ (k q : Nat), k ≤ n ∧ i = .int .i64 k ∧ q ≤ k ∧ v = .slice (some ⟨w.heap.size, 0, none⟩) q n ∧ Hid (q = (keepP (ls.take k) names wo).length) ∧
      wr.ownsRow w.heap.size 46 2 (.slice (some ⟨w.heap.size, 0, none⟩) q n) q (cellsL (keepP (ls.take k) names wo)) ∧ Below w.heap.size w wr) (fun _ i _ => n - (intOf i).toNat)
  case atStart => exact ⟨0, 0, by omega, by go_num, by omega, rfl, rfl, hown1, HB1⟩
  case round =>
    obtain ⟨k, q, hk, rfl, hq, rfl, Hq, hown, hb⟩ := hrel
    by_cases hlt : k < n
    · obtain ⟨b, off, rfl, hbl, hc⟩ := HR.out.at_ hlt
      have hx := cellsL_get ls k (by omega)
      have c0 := (hb.cell (p := ⟨b, off + k * 2, none⟩) hbl).trans (hc _ _ hx.1)
      have c1 := (hb.cell (p := ⟨b, off + k * 2 + 1, none⟩) hbl).trans (hc _ _ hx.2)
      clear hc hx
      obtain ⟨nm, hnm⟩ : ∃ x, ls[k].1 = x := ⟨_, rfl⟩
      obtain ⟨vl, hvl⟩ : ∃ x, ls[k].2 = x := ⟨_, rfl⟩
      rw [hnm] at c0
      rw [hvl] at c1
      have hs := keepP_snoc ls names wo k (by omega)
      rw [hnm] at hs
      have hkl : ls[k] = (nm, vl) := by rw [← hnm, ← hvl]
      rw [hkl] at hs
      have HS := Lib.hid hs
      clear hnm hvl hs hkl
      have hr2 : Hid (Reads (wr.alloc (.cells #[.string nm, .string vl] 46)) w.heap.size 1 A' m (names.map .string)) := hide ((HR'.out.below hb).alloc hb.size _)
      cases hst : staysP names wo nm with
      | false =>
        have HSt := Lib.hid hst
        clear hst
        go_wp2_with (go_at_call 41; refine (stays_any _ _ _ _ _ names _ _ hr2.out (by unfold maxLen; omega)).mono ?_; rintro e w' ⟨rfl, rfl⟩; rw [HSt.out])
        go_roundw
        case rel => exact ⟨k + 1, q, by omega, by go_num, by omega, rfl, by show _ = _; rw [HS.out, HSt.out]; simpa using Hq.out, by rw [HS.out, HSt.out]; simpa using hown.alloc _, hb.alloc hb.size _⟩
        case measure => simp [intOf]; omega
      | true =>
        have HSt := Lib.hid hst
        clear hst
        go_wp2_with (first
          | (go_at_call 41; refine (stays_any _ _ _ _ _ names _ _ hr2.out (by unfold maxLen; omega)).mono ?_; rintro e w' ⟨rfl, rfl⟩; rw [HSt.out])
          | (at_builtin
             refine wpList_append_fits _ rfl _ _ _ rfl w.heap.size 46 i0 2 Tryz.underlying41 hi hz1 w.heap.size q n _ rfl (((hown.alloc _)).alloc _) ⟨wr.heap.size + 1, 0, none⟩ 1 1 [.string nm, .string vl] rfl rfl (new_cells _ _ _ _ (by simp)) (by simp [Value.oneCell']) (by omega) ?_
             intro w2 hown2 hg2
             have hb2 : Below w.heap.size w w2 := ((hb.alloc hb.size _).alloc (by simp; have := hb.size; omega) _).grown hg2 (by simp; have := hb.size; omega) (by simp)
             clear hg2))
        go_roundw
        case rel => exact ⟨k + 1, q + 1, by omega, by go_num, by omega, rfl, by show _ = _; rw [HS.out, HSt.out]; simp [Hq.out], by rw [HS.out, HSt.out, if_pos rfl, cellsL_append]; exact hown2, hb2⟩
        case measure => simp [intOf]; omega
    · have hkn : k = n := by omega
      go_wp2
      go_ret
      have e : keepP (ls.take k) names wo = keepP ls names wo := by rw [List.take_of_length_le (by omega)]
      rw [e] at hown Hq
      have hq' := Hq.out
      subst hq'
      exact ⟨_, rfl, hown, hb⟩
end Go.Proofs.YtefdoineacfbhaaGreatDoor
