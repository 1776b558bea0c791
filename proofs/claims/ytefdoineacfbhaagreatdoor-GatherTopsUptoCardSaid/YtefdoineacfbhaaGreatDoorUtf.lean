/- What utf.replaced and utf.Valid compute. -/
import Derived.Test.YtefdoineacfbhaaGreatDoorLex
import Derived.Laws.RangeAny
namespace Go.Proofs.YtefdoineacfbhaaGreatDoor
open Go.RowKit Go.Sort

def replP (s : ByteArray) (i : Nat) : Bool := decide (i + 3 ≤ s.size) && decide ((s.extract i (i + 3)).toList = [239, 191, 189])
def validGo (s : ByteArray) : Nat → Nat → Bool
  | 0, _ => true
  | f + 1, pos => if pos < s.size then (if decide ((Utf8.decode s pos).1 = 65533) && !replP s pos then false else validGo s f (pos + (Utf8.decode s pos).2)) else true
/-- Is the text UTF-8? (As utf.Valid goes over it.) -/
def utfValidP (s : ByteArray) : Bool := validGo s s.size 0

set_option maxHeartbeats 400000 in
theorem replaced_any (s : ByteArray) (i : Nat) (w : World) (hs : s.size ≤ 9223372036854775000) (hi : i ≤ s.size) :
    Calls Tryz.prog 115 #[.string s, .int .i64 i] w fun e w' => e = .returned (.bool (replP s i)) ∧ w = w' := by
  by_cases h : i + 3 ≤ s.size
  · have HP : Hid (replP s i = decide ((s.extract i (i + 3)).toList = [239, 191, 189])) := by show _ = _; unfold replP; rw [decide_eq_true h, Bool.true_and]
    go_enter Tryz.func115, Tryz.ntmps115
    go_wp2_with fail
    go_ret
    refine ⟨ret_bool ?_, rfl⟩
    rw [HP.out, Bool.eq_iff_iff, beq_iff_eq, decide_eq_true_iff]
  · have HP : Hid (replP s i = false) := by show _ = _; unfold replP; rw [decide_eq_false h, Bool.false_and]
    go_enter Tryz.func115, Tryz.ntmps115
    go_wp2_with fail
    go_ret
    exact ⟨ret_bool (by rw [HP.out]), rfl⟩

theorem width_pos (s : ByteArray) (pos : Nat) (h : pos < s.size) : 1 ≤ (Utf8.decode s pos).2 := by
  by_cases ha : (s[pos]'h).toNat < 128
  · rw [decode_ascii s pos h ha]
    exact Nat.le_refl _
  · exact (decode_high s pos h (by omega)).2

theorem validGo_end (s : ByteArray) (f pos : Nat) (h : ¬ pos < s.size) : validGo s f pos = true := by
  cases f with
  | zero => rfl
  | succ f => rw [validGo, if_neg h]

set_option maxHeartbeats 400000 in
theorem valid_any (s : ByteArray) (w : World) (hs : s.size ≤ 9223372036854775000) :
    Calls Tryz.prog 73 #[.string s] w fun e w' => e = .returned (.bool (utfValidP s)) ∧ Below w.heap.size w w' := by
  have HB : ∀ pos, Below w.heap.size w (w.iter s pos) := fun pos => (Below.refl _ _).alloc (Nat.le_refl _) _
  have HHB := Lib.hid HB
  clear HB
  go_enter Tryz.func73, Tryz.ntmps73
  go_wp2_with fail
  go_loopw [] (fun w' => ∃ (pos b : Nat), w' = w.iter s pos ∧ Hid (validGo s b pos = utfValidP s) ∧ s.size ≤ pos + b) (fun w' => s.size - w'.iterPos w.heap.size)
  case atStart => exact ⟨0, s.size, rfl, rfl, by omega⟩
  case round =>
    obtain ⟨pos, b, rfl, HV, hb⟩ := hrel
    by_cases hp : pos < s.size
    · have hnx : ∀ ty, (Instr.next (.pointer (some ⟨w.heap.size, 0, none⟩)) true ty).run Tryz.prog (w.iter s pos) = _ := fun ty => run_next_any w s pos ty hp
      obtain ⟨b, rfl⟩ : ∃ b', b = b' + 1 := ⟨b - 1, by omega⟩
      have hstep := HV.out
      rw [validGo, if_pos hp] at hstep
      have hwd := width_pos s pos hp
      have HST := Lib.hid hstep
      clear hstep HV
      obtain ⟨d, hd⟩ : ∃ d, Utf8.decode s pos = d := ⟨_, rfl⟩
      obtain ⟨r, k⟩ := d
      rw [hd] at hwd hnx HST
      clear hd
      dsimp only at hwd hnx HST
      by_cases hr : r = 65533
      · have er : ((r : Int) == 65533) = true := by rw [beq_iff_eq]; omega
        have HD : Hid (decide (r = 65533) = true) := by show _ = _; rw [decide_eq_true hr]
        clear hr
        cases hq : replP s pos with
        | true =>
          have HQ := Lib.hid hq
          clear hq
          go_wp2_with (go_at_call 115; refine (replaced_any _ _ _ hs (by omega)).mono ?_; rintro e w' ⟨rfl, rfl⟩; rw [HQ.out])
          go_roundw
          case rel => exact ⟨pos + k, b, rfl, by show _ = _; rw [← HST.out, HQ.out, HD.out]; rfl, by omega⟩
          case measure => simp; omega
        | false =>
          have HQ := Lib.hid hq
          clear hq
          go_wp2_with (go_at_call 115; refine (replaced_any _ _ _ hs (by omega)).mono ?_; rintro e w' ⟨rfl, rfl⟩; rw [HQ.out])
          go_ret
          exact ⟨ret_bool (by rw [← HST.out, HQ.out, HD.out]; rfl), HHB.out _⟩
      · have er : ((r : Int) == 65533) = false := by rw [beq_eq_false_iff_ne]; omega
        have HD : Hid (decide (r = 65533) = false) := by show _ = _; rw [decide_eq_false hr]
        clear hr
        go_wp2_with fail
        go_roundw
        case rel => exact ⟨pos + k, b, rfl, by show _ = _; rw [← HST.out, HD.out]; rfl, by omega⟩
        case measure => simp; omega
    · have hnx : ∀ ty, (Instr.next (.pointer (some ⟨w.heap.size, 0, none⟩)) true ty).run Tryz.prog (w.iter s pos) = _ := fun ty => run_next_end w s pos ty hp
      have hv := validGo_end s b pos hp
      rw [hv] at HV
      clear hv
      go_wp2_with fail
      go_ret
      exact ⟨ret_bool HV.out, HHB.out _⟩
end Go.Proofs.YtefdoineacfbhaaGreatDoor
