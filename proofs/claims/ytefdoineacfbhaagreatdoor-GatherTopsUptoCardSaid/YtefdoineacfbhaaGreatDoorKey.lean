/- What labels.Key computes: a text of the kept labels, each part with its length ahead. -/
import Derived.Test.YtefdoineacfbhaaGreatDoorKeep
import Derived.Test.YtefdoineacfbhaaGreatDoorVector
import Derived.Lib.AppendStr
import Derived.Lib.SlBytesRow
import Derived.Lib.BufferRead
import Derived.Lib.ItoaLen
namespace Go.Proofs.YtefdoineacfbhaaGreatDoor
open Go Go.Proofs Go.Shelf Go.RowKit Go.Lib Go.Sort

theorem infoByte : (Tryz.prog.info? 5).map (fun i => (i.zero, i.size, i.bytes)) = some (some (.int .u8 0), 1, 1) := by kernel_rfl

/-- The library's table of powers of ten lies as the program's text lays it. -/
def PowTab (w : World) : Prop := Lib.TabIs Tryz.prog w "internal/strconv.uint64pow10" .u64 Lib.pow10Tab
theorem PowTab.below {w w' : World} (h : PowTab w) (hb : RowKit.Below w.heap.size w w') : PowTab w' := (Lib.tabBelow_of_tabIs h) w' hb

def fieldB (s : ByteArray) : List UInt8 := Lib.itoa s.size ++ (58 :: s.data.toList)
def labelB (l : Lb) : List UInt8 := fieldB l.1 ++ fieldB l.2
/-- The key of a label list. -/
def keyB (ls : List Lb) : List UInt8 := ls.flatMap labelB

/-- A text of these bytes. -/
def StrRes (w : World) (l : List UInt8) (e : Ending) (w' : World) : Prop := ∃ s : ByteArray, e = .returned (.string s) ∧ s.data.toList = l ∧ RowKit.Below w.heap.size w w'

theorem strCells_eq (s : ByteArray) : strCells s = byteCells s.data.toList := rfl

theorem ba_size (l : List UInt8) : (⟨l.toArray⟩ : ByteArray).size = l.length := by show l.toArray.size = _; simp

/-- 'string(b)' of a row of bytes of the call's own. -/
theorem conv_own {P : Program} {w : World} {base n : Nat} {e src dst : TypeId} {v : Value} {l : List UInt8} (hs : P.underlying src = some (.slice e)) (he : P.underlying e = some (.int .u8)) (hd : P.underlying dst = some .string)
    (h : w.ownsRow base e 1 v n (byteCells l)) : ∀ m, (convert src dst v).run P (w.drewN m) = .ok (.string ⟨l.toArray⟩) (w.drewN m) := by
  intro m
  have hl : l.length = n := by have := h.1; rw [byteCells_length] at this; omega
  rcases id h.2 with ⟨rfl, rfl⟩ | ⟨g, cap, cur, rfl, _⟩
  · obtain rfl : l = [] := List.eq_nil_of_length_eq_zero hl
    exact run_convert_nil_bytes _ src dst e 0 hs he hd
  · have hB : Bytes w g 0 ⟨l.toArray⟩ := by
      intro i hi
      have hi' : i < l.length := by rw [ba_size] at hi; exact hi
      rw [Nat.zero_add, h.cellAt i (by omega)]
      show (l.map fun b => Value.int .u8 b.toNat)[i]? = _
      rw [List.getElem?_map, List.getElem?_eq_getElem hi']
      rfl
    have hc := run_convert_whole (P := P) (w.drewN m) src e dst hs he hd g 0 ⟨l.toArray⟩ (hB.drewN m) cap
    have hsz : (⟨l.toArray⟩ : ByteArray).size = n := by rw [ba_size, hl]
    rw [hsz] at hc
    exact hc

theorem keyB_snoc (ls : List Lb) (k : Nat) (names : List ByteArray) (wo : Bool) (h : k < ls.length) :
    keyB (keepP (ls.take (k + 1)) names wo) = keyB (keepP (ls.take k) names wo) ++ (if staysP names wo ls[k].1 then labelB ls[k] else []) := by
  rw [keepP_snoc ls names wo k h]
  unfold keyB
  rw [List.flatMap_append]
  split <;> simp

theorem fieldB_le (s : ByteArray) (h : s.size ≤ 1048576) : (fieldB s).length ≤ 1048576 + 22 := by
  have := itoa_length_le s.size (by omega) (by omega)
  unfold fieldB
  simp; omega
theorem labelB_le (l : Lb) (h : l.1.size ≤ 1048576 ∧ l.2.size ≤ 1048576) : (labelB l).length ≤ 2097200 := by
  have h1 := fieldB_le l.1 h.1
  have h2 := fieldB_le l.2 h.2
  unfold labelB
  simp; omega
theorem keyB_le (ls : List Lb) (h : ∀ l ∈ ls, l.1.size ≤ 1048576 ∧ l.2.size ≤ 1048576) : (keyB ls).length ≤ ls.length * 2097200 := by
  induction ls with
  | nil => simp [keyB]
  | cons l ls ih =>
    have h1 := labelB_le l (h l (by simp))
    have h2 := ih fun x hx => h x (by simp [hx])
    unfold keyB at *
    rw [List.flatMap_cons, List.length_append, List.length_cons]
    omega

theorem key_bound (k q : Nat) (h : q ≤ k * 2097200) (hk : k ≤ 1048576) : q ≤ 2200000000000 := by
  have := Nat.mul_le_mul_right 2097200 hk
  exact Nat.le_trans (Nat.le_trans h this) (by decide)
theorem key_next (k q r : Nat) (h : q ≤ k * 2097200) (hr : r ≤ 2097200) : q + r ≤ (k + 1) * 2097200 := by
  rw [Nat.add_mul, Nat.one_mul]; exact Nat.add_le_add h hr

/-- What the pair's round has laid after j texts. -/
def partB (nm vl : ByteArray) : Nat → List UInt8
  | 0 => []
  | 1 => fieldB nm
  | _ => labelB (nm, vl)

theorem part_le (nm vl : ByteArray) (j : Nat) (h1 : nm.size ≤ 1048576) (h2 : vl.size ≤ 1048576) : (partB nm vl j).length ≤ 2097200 := by
  have h3 := labelB_le (nm, vl) ⟨h1, h2⟩
  have h4 := fieldB_le nm h1
  match j with
  | 0 => exact Nat.zero_le _
  | 1 => show (fieldB nm).length ≤ _; omega
  | j + 2 => exact h3

theorem part_step (nm vl : ByteArray) (j : Nat) (h : j < 2) (h1 : nm.size ≤ 1048576) (h2 : vl.size ≤ 1048576) : ∃ s : ByteArray, partB nm vl (j + 1) = partB nm vl j ++ fieldB s ∧
    (∀ W, (Instr.index 138 (.agg #[.string nm, .string vl]) (.int .i64 j)).run Tryz.prog W = .ok (.string s) W) ∧ s.size ≤ 1048576 := by
  obtain rfl | rfl : j = 0 ∨ j = 1 := by omega
  · exact ⟨nm, rfl, fun _ => by kernel_rfl, h1⟩
  · exact ⟨vl, rfl, fun _ => by kernel_rfl, h2⟩

theorem cells_field (D E : List UInt8) (s : ByteArray) : byteCells (D ++ (E ++ fieldB s)) = byteCells (D ++ E) ++ byteCells (Lib.itoa s.size) ++ [.int .u8 58] ++ strCells s := by
  unfold fieldB byteCells strCells
  simp

set_option maxHeartbeats 2000000 in
set_option maxRecDepth 100000 in
theorem key_any (A : Option Addr) (n c : Nat) (ls : List Lb) (A' : Option Addr) (m c' : Nat) (names : List ByteArray) (wo : Bool) (w : World)
    (h : Reads w w.heap.size 2 A n (cellsL ls)) (h' : Reads w w.heap.size 1 A' m (names.map .string)) (hf : FineL ls) (hm : m ≤ 1048576) (htab : PowTab w) :
    Calls Tryz.prog 69 #[.slice A n c, .slice A' m c', .bool wo] w (StrRes w (keyB (keepP ls names wo))) := by
  obtain ⟨i0, hi, hz0, hz1, hz2⟩ := info_parts infoByte
  have hl : ls.length = n := by have := h.1; rw [cellsL_length] at this; omega
  have hn : n ≤ 1048576 := by have := hf.1; omega
  have HR := Lib.hid h
  have HR' := Lib.hid h'
  have HF := Lib.hid hf
  have HL := Lib.hid hl
  have HT := Lib.hid (Lib.tabBelow_of_tabIs htab)
  clear h h' hf hl htab
  go_enter Tryz.func69, Tryz.ntmps69
  go_wp2_with fail
  go_loopw [7, 14] (fun v i wr => ∃ (k q : Nat), k ≤ n ∧ i = .int .i64 k ∧ Hid (q = (keyB (keepP (ls.take k) names wo)).length) ∧ Hid (q ≤ k * 2097200) ∧
      wr.ownsRow w.heap.size 5 1 v q (byteCells (keyB (keepP (ls.take k) names wo))) ∧ RowKit.Below w.heap.size w wr) (fun _ i _ => n - (intOf i).toNat)
  case atStart => exact ⟨0, 0, by omega, by go_num, rfl, Nat.zero_le _, World.ownsRow_nil _ _ _ _, Below.refl _ _⟩
  case round =>
    obtain ⟨k, q, hk, rfl, HQ, HQB, hown, hb⟩ := hrel
    have hq := key_bound k q HQB.out (by omega)
    by_cases hlt : k < n
    · have hkl : k < ls.length := by have := HL.out; omega
      obtain ⟨b, off, rfl, hbl, hc⟩ := HR.out.at_ hlt
      have hx := cellsL_get ls k hkl
      have c0 := (hb.cell (p := ⟨b, off + k * 2, none⟩) hbl).trans (hc _ _ hx.1)
      have c1 := (hb.cell (p := ⟨b, off + k * 2 + 1, none⟩) hbl).trans (hc _ _ hx.2)
      have hs := keyB_snoc ls k names wo hkl
      have hfl := HF.out.2 ls[k] (List.getElem_mem _)
      obtain ⟨nm, hnm⟩ : ∃ x, ls[k].1 = x := ⟨_, rfl⟩
      obtain ⟨vl, hvl⟩ : ∃ x, ls[k].2 = x := ⟨_, rfl⟩
      have hkp : ls[k] = (nm, vl) := by rw [← hnm, ← hvl]
      rw [hnm] at c0
      rw [hvl] at c1
      rw [hkp] at hs hfl
      dsimp only at hs hfl
      have hf1 := hfl.1
      have hf2 := hfl.2
      have HS := Lib.hid hs
      have hr2 : Hid (Reads (wr.alloc (.cells #[.string nm, .string vl] 46)) w.heap.size 1 A' m (names.map .string)) := hide ((HR'.out.below hb).alloc hb.size _)
      have HSTAY := Lib.hid (stays_any nm A' m c' w.heap.size names wo _ hr2.out (by unfold maxLen; omega))
      clear hnm hvl hs hkp hc hx hfl hr2
      cases hst : staysP names wo nm with
      | false =>
        rw [hst] at HSTAY
        have HSt := Lib.hid hst
        clear hst
        go_wp2_with (go_at_call 41; refine (Hid.out HSTAY).mono ?_; rintro e w' ⟨rfl, rfl⟩)
        go_roundw
        case rel => exact ⟨k + 1, q, by omega, by go_num, by show _ = _; rw [HS.out, HSt.out]; simpa using HQ.out, key_next k q 0 HQB.out (by omega), by rw [HS.out, HSt.out]; simpa using hown.alloc _, hb.alloc hb.size _⟩
        case measure => simp [intOf]; omega
      | true =>
        rw [hst] at HSTAY
        have HSt := Lib.hid hst
        clear hst
        have i0' : ∀ W, (Instr.index 138 (.agg #[.string nm, .string vl]) (.int .i64 0)).run Tryz.prog W = .ok (.string nm) W := fun _ => by kernel_rfl
        have i1' : ∀ W, (Instr.index 138 (.agg #[.string nm, .string vl]) (.int .i64 1)).run Tryz.prog W = .ok (.string vl) W := fun _ => by kernel_rfl
        go_wp2_with (go_at_call 41; refine (Hid.out HSTAY).mono ?_; rintro e w' ⟨rfl, rfl⟩)
        have hown0 := hown.alloc (.cells #[.string nm, .string vl] 46)
        have hb0 := hb.alloc hb.size (.cells #[.string nm, .string vl] 46)
        generalize wr.alloc (.cells #[.string nm, .string vl] 46) = wq at hown0 hb0 ⊢
        clear hown hb
        obtain ⟨D, hD⟩ : ∃ D, keyB (keepP (ls.take k) names wo) = D := ⟨_, rfl⟩
        rw [hD] at hown0 HS HQ
        clear hD
        have hfn := fieldB_le nm hf1
        have hfv := fieldB_le vl hf2
        have HLB : Hid ((labelB (nm, vl)).length = (fieldB nm).length + (fieldB vl).length) := by show _ = _; unfold labelB; simp
        go_loopw [7, 28] (fun v i wx => ∃ (j p : Nat), j ≤ 2 ∧ i = .int .i64 j ∧ Hid (p = q + (partB nm vl j).length) ∧
            wx.ownsRow w.heap.size 5 1 v p (byteCells (D ++ partB nm vl j)) ∧ RowKit.Below w.heap.size w wx) (fun _ i _ => 2 - (intOf i).toNat)
        case atStart => exact ⟨0, q, by omega, by go_num, by show _ = _; simp [partB], by simpa [partB] using hown0, hb0⟩
        case round =>
          clear hown0 hb0
          obtain ⟨j, p, hj, rfl, HP, hownp, hbp⟩ := hrel
          by_cases hj2 : j < 2
          · obtain ⟨s, hpart, hidx, hsz⟩ := part_step nm vl j hj2 hf1 hf2
            have HPS := Lib.hid hpart
            have hpl := part_le nm vl j hf1 hf2
            have hfs := fieldB_le s hsz
            have hpq : p ≤ 2200003000000 := by have := HP.out; omega
            have HA := Lib.hid (Tryz.strconv_AppendInt_10 w.heap.size p (s.size : Int) (by omega) (by omega) _ _ _ hownp hbp.size (by omega) (HT.out.on hbp))
            clear hpart
            have hlen : (Lib.itoa (s.size : Int)).length ≤ 21 := by have := itoa_length_le s.size (by omega) (by omega); omega
            have hss := hsz
            go_wp2_with (first
              | (go_at_call 107
                 refine (Hid.out HA).mono ?_
                 rintro e w2 ⟨v2, rfl, hown2, hb2', -⟩
                 dsimp only
                 have hb2 : RowKit.Below w.heap.size w w2 := hbp.trans hb2'
                 clear hb2' hownp hbp HA
                 try clear c0 c1 i0' i1' hown hb HSt HSTAY)
              | (at_builtin
                 refine wpList_append_own _ rfl (.tmp 35) (.tmp 36) _ rfl w.heap.size 5 i0 (.int .u8 0) 1 1 Tryz.underlying114 hi hz0 hz1 hz2 rfl (by decide) _ _ _ rfl (hown2.alloc _) ⟨w2.heap.size, 0, none⟩ 1 1 [.int .u8 58] rfl rfl (cell_one_new _ _ _) (fun x hx => by simp at hx; subst hx; rfl) (by unfold maxLen; omega) (by omega) (by simp; have := hb2.size; omega) ?_
                 intro v3 w3 hown3 hg3 _
                 have hb3 : RowKit.Below w.heap.size w w3 := Below.grown (hb2.alloc hb2.size _) hg3 (by simp; have := hb2.size; omega) (fun j hj => (hown2.lt _ hj).1)
                 clear hg3)
              | (at_builtin
                 refine wpList_append_own_string _ rfl (.tmp 38) (.tmp 39) _ _ rfl w.heap.size 5 i0 Tryz.underlying114 Tryz.underlying9 hi hz0 hz1 hz2 _ _ _ rfl hown3 s rfl (by unfold maxLen; omega) (by omega) (by have := hb3.size; omega) ?_
                 intro v4 w4 hown4 hg4 _
                 have hb4 : RowKit.Below w.heap.size w w4 := Below.grown hb3 hg4 (by have := hb3.size; omega) (fun j hj => (hown3.lt _ hj).1)
                 clear hg4)
              )
            go_roundw
            case rel =>
              refine ⟨j + 1, p + (Lib.itoa (s.size : Int)).length + 1 + s.size, by omega, by go_num, ?_, ?_, hb4⟩
              · show _ = _
                rw [HPS.out, HP.out]
                simp [fieldB]
                omega
              · rw [HPS.out, cells_field]
                exact hown4
            case measure => simp [intOf]; omega
          · obtain rfl : j = 2 := by omega
            go_wp2_with fail
            go_roundw
            case rel =>
              refine ⟨k + 1, p, by omega, by go_num, ?_, ?_, ?_, hbp⟩
              · show _ = _
                rw [HS.out, HP.out, HQ.out, HSt.out, if_pos rfl, List.length_append]; rfl
              · have := part_le nm vl 2 hf1 hf2
                rw [HP.out]
                exact key_next k q _ HQB.out this
              · rw [HS.out, HSt.out, if_pos rfl]
                exact hownp
            case measure => simp [intOf]; omega
    · have hkn : k = n := by omega
      subst hkn
      have e : keepP (ls.take k) names wo = keepP ls names wo := by rw [List.take_of_length_le (by have := HL.out; omega)]
      rw [e] at hown HQ
      have hc0 : (convert 114 9 _).run Tryz.prog wr = .ok (.string ⟨(keyB (keepP ls names wo)).toArray⟩) wr := conv_own Tryz.underlying114 Tryz.underlying5 Tryz.underlying9 hown 0
      go_wp2_with fail
      go_ret
      exact ⟨_, rfl, rfl, hb⟩
end Go.Proofs.YtefdoineacfbhaaGreatDoor
