/- What labels.stays computes. -/
import Derived.Test.YtefdoineacfbhaaGreatDoorWords
import Derived.Test.YtefdoineacfbhaaGreatDoorPlain
import Derived.Test.YtefdoineacfbhaaGreatDoorShelf
import Derived.Test.YtefdoineacfbhaaGreatDoorChecked
import Derived.WalkKit
import Derived.WalkSpells
import Derived.WalkLawsBesides
namespace Go.Proofs.YtefdoineacfbhaaGreatDoor
open Go.RowKit Go.Sort

theorem getD_cells (names : List ByteArray) (j : Nat) (h : j < names.length) : (names.map Value.string)[j]? = some (.string (names.getD j ByteArray.empty)) := by
  simp [h]

theorem contains_any (A : Option Addr) (n c : Nat) (B : Nat) (names : List ByteArray) (x : ByteArray) (w : World) (h : Reads w B 1 A n (names.map .string)) (hn : n ≤ maxLen) :
    Calls Tryz.prog 79 #[.slice A n c, .string x] w fun e w' => e = .returned (.bool (decide (x ∈ names))) ∧ w = w' := by
  have hl : names.length = n := by simpa using h.1
  rcases Nat.eq_zero_or_pos n with h0 | h0
  · subst h0
    obtain rfl : names = [] := List.eq_nil_of_length_eq_zero hl
    exact (Tryz.slices_Contains_string_empty A c x w).mono fun e w' ⟨he, hw⟩ => ⟨by simpa using he, hw.symm⟩
  · obtain ⟨b, off, rfl, _, hc⟩ := h.2 h0
    refine (Tryz.slices_Contains_string b off n c names x w (by omega) (by unfold maxLen at hn; omega) (fun j hj => hc j _ (getD_cells names j hj))).mono fun e w' ⟨he, hw⟩ => ⟨?_, hw.symm⟩
    rw [he, show Lib.containsS (names.take n) x = decide (x ∈ names) from ?_]
    rw [List.take_of_length_le (by omega)]
    by_cases hx : x ∈ names
    · rw [decide_eq_true hx]; exact (Lib.containsS_iff _ _).2 hx
    · rw [decide_eq_false hx]; exact Bool.eq_false_iff.2 fun h => hx ((Lib.containsS_iff _ _).1 h)

set_option maxHeartbeats 400000 in
theorem stays_any (nm : ByteArray) (A : Option Addr) (n c : Nat) (B : Nat) (names : List ByteArray) (wo : Bool) (w : World) (h : Reads w B 1 A n (names.map .string)) (hn : n ≤ maxLen) :
    Calls Tryz.prog 41 #[.string nm, .slice A n c, .bool wo] w fun e w' => e = .returned (.bool (staysP names wo nm)) ∧ w = w' := by
  have HR := Lib.hid h
  clear h
  cases wo
  · go_enter Tryz.func41, Tryz.ntmps41
    go_wp2_with (go_at_call 79; refine (contains_any _ _ _ B names _ _ HR.out (by omega)).mono ?_; rintro e w' ⟨rfl, rfl⟩)
    go_ret
    exact ⟨rfl, rfl⟩
  · by_cases hm : nm = metricName
    · have e1 : (nm.toList == [95, 95, 110, 97, 109, 101, 95, 95]) = true := by rw [← metric_toList, toList_beq, decide_eq_true hm]
      have HS : Hid (staysP names true nm = false) := by show _ = _; unfold staysP; simp [hm]
      clear hm
      go_enter Tryz.func41, Tryz.ntmps41
      go_wp2_with fail
      go_ret
      exact ⟨by rw [HS.out]; rfl, rfl⟩
    · have e1 : (nm.toList == [95, 95, 110, 97, 109, 101, 95, 95]) = false := by
        rw [← metric_toList, toList_beq, decide_eq_false hm]
      have HS : Hid (staysP names true nm = !decide (nm ∈ names)) := by show _ = _; unfold staysP; simp [hm]
      clear hm
      go_enter Tryz.func41, Tryz.ntmps41
      go_wp2_with (go_at_call 79; refine (contains_any _ _ _ B names _ _ HR.out (by omega)).mono ?_; rintro e w' ⟨rfl, rfl⟩)
      go_ret
      exact ⟨by rw [HS.out]; rfl, rfl⟩
end Go.Proofs.YtefdoineacfbhaaGreatDoor
