/- What lex.letter, lex.digit, lex.nameEnd and lex.IsLabel compute. -/
import Derived.Test.YtefdoineacfbhaaGreatDoorWords
import Derived.Test.YtefdoineacfbhaaGreatDoorPlain
import Derived.Test.YtefdoineacfbhaaGreatDoorChecked
import Derived.WalkKit
import Derived.WalkSpells
import Derived.WalkLawsBesides
namespace Go.Proofs.YtefdoineacfbhaaGreatDoor
open Go.RowKit Go.Sort

def letterB (c : Int) : Bool := decide ((97 ≤ c ∧ c ≤ 122) ∨ (65 ≤ c ∧ c ≤ 90) ∨ c = 95)
def digitB (c : Int) : Bool := decide (48 ≤ c ∧ c ≤ 57)

theorem ret_bool {a b : Bool} (h : a = b) : Ending.returned (.bool a) = .returned (.bool b) := by rw [h]
theorem ret_int {k : IntKind} {a b : Int} (h : a = b) : Ending.returned (.int k a) = .returned (.int k b) := by rw [h]

set_option maxHeartbeats 400000 in
theorem letter_any (c : Int) (w : World) : Calls Tryz.prog 65 #[.int .u8 c] w fun e w' => e = .returned (.bool (letterB c)) ∧ w = w' := by
  by_cases h1 : 97 ≤ c <;> by_cases h2 : c ≤ 122 <;> by_cases h3 : 65 ≤ c <;> by_cases h4 : c ≤ 90 <;> (first | (exfalso; omega) | skip)
  all_goals
    go_enter Tryz.func65, Tryz.ntmps65
    go_wp2
    go_ret
    refine ⟨ret_bool ?_, rfl⟩
    rw [letterB, Bool.eq_iff_iff]
    simp
    try omega

set_option maxHeartbeats 400000 in
theorem digit_any (c : Int) (w : World) : Calls Tryz.prog 105 #[.int .u8 c] w fun e w' => e = .returned (.bool (digitB c)) ∧ w = w' := by
  by_cases h1 : 48 ≤ c <;> by_cases h2 : c ≤ 57
  all_goals
    go_enter Tryz.func105, Tryz.ntmps105
    go_wp2
    go_ret
    refine ⟨ret_bool ?_, rfl⟩
    rw [digitB, Bool.eq_iff_iff]
    simp
    try omega

/-- The bytes that nameEnd runs over. -/
def nameB (colons : Bool) (c : UInt8) : Bool := letterB c.toNat || digitB c.toNat || (colons && decide (c = 58))
def nameLen (colons : Bool) (l : List UInt8) : Nat := (l.takeWhile (nameB colons)).length
theorem nameLen_le (colons : Bool) (l : List UInt8) : nameLen colons l ≤ l.length := by
  unfold nameLen; exact (List.takeWhile_sublist _).length_le
theorem nameLen_drop_yes (colons : Bool) (s : ByteArray) (k : Nat) (h : k < s.size) (hy : nameB colons s[k] = true) :
    nameLen colons (s.data.toList.drop k) = 1 + nameLen colons (s.data.toList.drop (k + 1)) := by
  rw [List.drop_eq_getElem_cons (by simpa using h)]
  unfold nameLen
  rw [List.takeWhile_cons, show s.data.toList[k]'(by simpa using h) = s[k] from rfl, if_pos hy]
  simp; omega
theorem nameLen_drop_no (colons : Bool) (s : ByteArray) (k : Nat) (h : k < s.size) (hy : nameB colons s[k] = false) : nameLen colons (s.data.toList.drop k) = 0 := by
  rw [List.drop_eq_getElem_cons (by simpa using h)]
  unfold nameLen
  rw [List.takeWhile_cons, show s.data.toList[k]'(by simpa using h) = s[k] from rfl, if_neg (by rw [hy]; decide)]
  rfl
theorem nameLen_drop_end (colons : Bool) (s : ByteArray) (k : Nat) (h : ¬ k < s.size) : nameLen colons (s.data.toList.drop k) = 0 := by
  rw [List.drop_eq_nil_of_le (by simpa using h)]; rfl

set_option maxHeartbeats 800000 in
theorem nameEnd_any (s : ByteArray) (i : Nat) (colons : Bool) (w : World) (hs : s.size ≤ maxLen) (hi : i ≤ s.size) :
    Calls Tryz.prog 66 #[.string s, .int .i64 i, .bool colons] w fun e w' => e = .returned (.int .i64 (i + nameLen colons (s.data.toList.drop i) : Nat)) ∧ w = w' := by
  unfold maxLen at hs
  go_enter Tryz.func66, Tryz.ntmps66
  go_wp2_with fail
  go_loop [1] (fun v => ∃ k : Nat, k ≤ s.size ∧ v = .int .i64 k ∧ Hid (k + nameLen colons (s.data.toList.drop k) = i + nameLen colons (s.data.toList.drop i))) (fun v => s.size - (intOf v).toNat)
  case atStart => exact ⟨i, hi, rfl, rfl⟩
  case round =>
    obtain ⟨k, hk, rfl, HK⟩ := hrel
    by_cases hlt : k < s.size
    · have hyes := nameLen_drop_yes colons s k hlt
      have hno := nameLen_drop_no colons s k hlt
      have HY := Lib.hid hyes
      have HN := Lib.hid hno
      clear hyes hno
      obtain ⟨c, hc⟩ : ∃ c, s[k] = c := ⟨_, rfl⟩
      rw [hc] at HY HN
      have e58 : ((c.toNat : Int) == 58) = decide (c = 58) := by
        rw [Bool.eq_iff_iff, beq_iff_eq, decide_eq_true_iff]
        exact ⟨fun h => UInt8.toNat_inj.1 (by show c.toNat = 58; omega), fun h => by subst h; rfl⟩
      have step : nameB colons c = true → Hid (k + 1 + nameLen colons (s.data.toList.drop (k + 1)) = i + nameLen colons (s.data.toList.drop i)) := fun h => by
        have := HY.out h; have := HK.out; show _ = _; omega
      have stop : nameB colons c = false → Hid (k = i + nameLen colons (s.data.toList.drop i)) := fun h => by
        have := HN.out h; have := HK.out; show _ = _; omega
      have STEP := Lib.hid step
      have STOP := Lib.hid stop
      clear step stop
      have E58 := Lib.hid e58
      clear e58
      cases hl : letterB c.toNat with
      | true =>
        have HL := Lib.hid hl
        clear hl
        go_wp2_with (first | (go_at_call 65; refine (letter_any _ _).mono ?_; rintro e w' ⟨rfl, rfl⟩; rw [HL.out]))
        exact ⟨⟨k + 1, by omega, by go_num, STEP.out (by unfold nameB; rw [HL.out]; rfl)⟩, by simp [intOf]; omega⟩
      | false =>
        cases hd : digitB c.toNat with
        | true =>
          have HL := Lib.hid hl
          clear hl
          have HD := Lib.hid hd
          clear hd
          go_wp2_with (first | (go_at_call 65; refine (letter_any _ _).mono ?_; rintro e w' ⟨rfl, rfl⟩; rw [HL.out]) | (go_at_call 105; refine (digit_any _ _).mono ?_; rintro e w' ⟨rfl, rfl⟩; rw [HD.out]))
          exact ⟨⟨k + 1, by omega, by go_num, STEP.out (by unfold nameB; rw [HL.out, HD.out]; rfl)⟩, by simp [intOf]; omega⟩
        | false =>
          have HL := Lib.hid hl
          clear hl
          have HD := Lib.hid hd
          clear hd
          have HB : Hid (nameB colons c = (colons && decide (c = 58))) := by show _ = _; unfold nameB; rw [HL.out, HD.out]; rfl
          cases colons with
          | false =>
            go_wp2_with (first | (go_at_call 65; refine (letter_any _ _).mono ?_; rintro e w' ⟨rfl, rfl⟩; rw [HL.out]) | (go_at_call 105; refine (digit_any _ _).mono ?_; rintro e w' ⟨rfl, rfl⟩; rw [HD.out]))
            go_ret
            exact ⟨ret_int (by have := (STOP.out (by rw [HB.out]; rfl)).out; omega), rfl⟩
          | true =>
            cases h58 : decide (c = 58) with
            | true =>
              have e58 : ((c.toNat : Int) == 58) = true := E58.out.trans h58
              have H58 := Lib.hid h58
              clear h58
              go_wp2_with (first | (go_at_call 65; refine (letter_any _ _).mono ?_; rintro e w' ⟨rfl, rfl⟩; rw [HL.out]) | (go_at_call 105; refine (digit_any _ _).mono ?_; rintro e w' ⟨rfl, rfl⟩; rw [HD.out]))
              exact ⟨⟨k + 1, by omega, by go_num, STEP.out (by rw [HB.out, H58.out]; rfl)⟩, by simp [intOf]; omega⟩
            | false =>
              have e58 : ((c.toNat : Int) == 58) = false := E58.out.trans h58
              have H58 := Lib.hid h58
              clear h58
              go_wp2_with (first | (go_at_call 65; refine (letter_any _ _).mono ?_; rintro e w' ⟨rfl, rfl⟩; rw [HL.out]) | (go_at_call 105; refine (digit_any _ _).mono ?_; rintro e w' ⟨rfl, rfl⟩; rw [HD.out]))
              go_ret
              exact ⟨ret_int (by have := (STOP.out (by rw [HB.out, H58.out]; rfl)).out; omega), rfl⟩
    · have HE := Lib.hid (nameLen_drop_end colons s k hlt)
      go_wp2_with fail
      go_ret
      exact ⟨ret_int (by have := HE.out; have := HK.out; omega), rfl⟩

/-- IsLabel: a letter, then letters and digits. -/
def isLabelP (s : ByteArray) : Bool := match s.data.toList with
  | [] => false
  | c :: l => letterB c.toNat && decide (nameLen false (c :: l) = l.length + 1)

set_option maxHeartbeats 400000 in
theorem isLabel_any (s : ByteArray) (w : World) (hs : s.size ≤ maxLen) :
    Calls Tryz.prog 32 #[.string s] w fun e w' => e = .returned (.bool (isLabelP s)) ∧ w = w' := by
  have hne := nameEnd_any s 0 false w hs (Nat.zero_le _)
  have HNE := Lib.hid hne
  clear hne
  unfold maxLen at hs
  by_cases h0 : s.size = 0
  · have hnil : s.data.toList = [] := List.eq_nil_of_length_eq_zero (by simpa using h0)
    have hem : s.toList.isEmpty = true := by rw [ByteArray.toList_eq, hnil]; rfl
    have HP : Hid (isLabelP s = false) := by show _ = _; unfold isLabelP; rw [hnil]
    clear hnil
    go_enter Tryz.func32, Tryz.ntmps32
    go_wp2_with fail
    go_ret
    exact ⟨ret_bool (by rw [HP.out]), rfl⟩
  · have hp : 0 < s.size := by omega
    obtain ⟨c, l, hcl⟩ : ∃ c l, s.data.toList = c :: l := by
      cases hd : s.data.toList with
      | nil => exact absurd (by have := congrArg List.length hd; simpa using this) h0
      | cons c l => exact ⟨c, l, rfl⟩
    have hc : s[0] = c := by
      have : s.data.toList[0]'(by simpa using hp) = c := by simp only [hcl, List.getElem_cons_zero]
      exact this
    have hsz : l.length + 1 = s.size := by have := congrArg List.length hcl; simp at this; exact this.symm
    have HP : Hid (isLabelP s = (letterB c.toNat && decide (nameLen false (c :: l) = l.length + 1))) := by show _ = _; unfold isLabelP; rw [hcl]
    have hem : s.toList.isEmpty = false := by rw [ByteArray.toList_eq, hcl]; rfl
    have HCL := Lib.hid hcl
    clear hcl
    cases hl : letterB c.toNat with
    | false =>
      have HL := Lib.hid hl
      clear hl
      go_enter Tryz.func32, Tryz.ntmps32
      go_wp2_with (go_at_call 65; refine (letter_any _ _).mono ?_; rintro e w' ⟨rfl, rfl⟩; rw [HL.out])
      go_ret
      exact ⟨ret_bool (by rw [HP.out, HL.out]; rfl), rfl⟩
    | true =>
      have HL := Lib.hid hl
      clear hl
      have HSZ := Lib.hid hsz
      clear hsz
      go_enter Tryz.func32, Tryz.ntmps32
      go_wp2_with (first
        | (go_at_call 65; refine (letter_any _ _).mono ?_; rintro e w' ⟨rfl, rfl⟩; rw [HL.out])
        | (go_at_call 66; refine (HNE.out).mono ?_; rintro e w' ⟨rfl, rfl⟩))
      go_ret
      refine ⟨ret_bool ?_, rfl⟩
      rw [HP.out, HL.out]
      simp only [List.drop_zero, HCL.out, Bool.true_and, Nat.zero_add, HSZ.out]
      rw [Bool.eq_iff_iff, beq_iff_eq, decide_eq_true_iff]
      omega
end Go.Proofs.YtefdoineacfbhaaGreatDoor
