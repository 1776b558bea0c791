/- The pile: Len, New, Push. -/
import Derived.Test.YtefdoineacfbhaaGreatDoorPileD
import Derived.Test.YtefdoineacfbhaaGreatDoorChg
import Derived.Test.YtefdoineacfbhaaGreatDoorGroup

namespace Go.Proofs.YtefdoineacfbhaaGreatDoor
open Go Go.Proofs Go.Shelf Go.RowKit Go.Lib Go.Sort

attribute [local go_sem] run_store_float

theorem len_any (B f p : Nat) (gv : Value) (nx : Nat) (es : List Ent) (w : World) (hP : PileAt w B p f gv nx es) :
    Calls Tryz.prog 113 #[.pointer (some ⟨p, 0, none⟩)] w fun e w' => e = .returned (.int .i64 es.length) ∧ w = w' := by
  obtain ⟨A, cap, rfl⟩ := own_form hP.2.2.1
  have p1 : w.cell? ⟨p, 1, none⟩ = some (.slice A es.length cap) := hP.2.1.cell 1
  clear hP
  go_enter Tryz.func113, Tryz.ntmps113
  go_wp2_with fail
  go_ret
  exact ⟨rfl, rfl⟩

set_option maxRecDepth 100000 in
theorem new_any (B f : Nat) (w : World) (hB : B ≤ w.heap.size) :
    Calls Tryz.prog 110 #[lessV f] w fun e w' => ∃ p, e = .returned (.pointer (some ⟨p, 0, none⟩)) ∧ PileAt w' B p f (.slice none 0 0) 0 [] ∧ RowKit.Below w.heap.size w w' := by
  unfold lessV
  have heq : ∀ W : World, (binOp .eql 144 (.func (.func 111) #[] #[.pointer (some ⟨f, 0, none⟩)]) .nilFunc).run Tryz.prog W = .ok (.bool false) W := fun _ => by kernel_rfl
  go_enter Tryz.func110, Tryz.ntmps110
  go_wp2_with fail
  go_ret
  exact ⟨_, rfl, ⟨hB, Blk.new _ _ _, World.ownsRow_nil _ _ _ _, fun e he => by cases he⟩, (Below.refl _ _).alloc (Nat.le_refl _) _⟩

theorem infoEnt : (Tryz.prog.info? 172).map (fun i => (i.zero, i.size, i.bytes)) = some (some (.agg #[.slice none 0 0, .float .f64 0, .int .i64 0, .int .u64 0]), 4, 48) := by kernel_rfl

/-- An entry behind the others, the count written. -/
theorem pile_pushed {w w1 : World} {B f p nx c10 : Nat} {gv : Value} {A10 : Option Addr} {es : List Ent} {x : Value × El} {at_ : Nat} (hP : PileAt w B p f gv nx es) (hx : IsSl x.1)
    (hB : Blk w1 p 170 #[lessV f, gv, .int .u64 nx])
    (hO : w1.ownsRow B 172 4 (.slice A10 (es.length + 1) c10) (es.length + 1) (cellsP es ++ [x.1, .float .f64 x.2.2, .int .i64 at_, .int .u64 nx])) :
    PileAt ((w1.setCell ⟨p, 1, none⟩ (.slice A10 (es.length + 1) c10)).setCell ⟨p, 2, none⟩ (.int .u64 ((nx : Int) + 1))) B p f (.slice A10 (es.length + 1) c10) (nx + 1) (es ++ [(x, at_, nx)]) := by
  have hb2 := (hB.set_ 1 (.slice A10 (es.length + 1) c10)).set_ 2 (.int .u64 ((nx : Int) + 1))
  have hpT : ElT w1 p 170 := ⟨_, hB⟩
  have hne : ∀ g, Value.ownBlock (.slice A10 (es.length + 1) c10) = some g → some g ≠ some p := fun g hg e => by
    injection e with e; subst e
    have := (ElT.of_row hO hg).same hpT; cases this
  have h1 := hO.kept (Lib.grownBy_setCell w1 p 1 (.slice A10 (es.length + 1) c10)) (by
    cases hq : Value.ownBlock (.slice A10 (es.length + 1) c10) with
    | none => exact .inl rfl
    | some q => exact .inr (hne q hq))
  have h2 := h1.kept (Lib.grownBy_setCell _ p 2 (.int .u64 ((nx : Int) + 1))) (by
    cases hq : Value.ownBlock (.slice A10 (es.length + 1) c10) with
    | none => exact .inl rfl
    | some q => exact .inr (hne q hq))
  refine ⟨hP.1, by rw [show (((nx + 1 : Nat)) : Int) = (nx : Int) + 1 from by omega]; simpa using hb2, ?_, fun e he => ?_⟩
  · rw [cellsP_append, List.length_append]
    exact h2
  · rcases List.mem_append.1 he with he | he
    · exact hP.2.2.2 e he
    · obtain rfl : e = (x, at_, nx) := by simpa using he
      exact hx

theorem fE_append {es : List Ent} {k : Nat} (h : k < es.length) (r : List Ent) : fE (es ++ r) k = fE es k := by
  rw [fE_at (by simp; omega), fE_at h, List.getElem_append_left h]

set_option maxHeartbeats 4000000 in
set_option maxRecDepth 100000 in
theorem push_any (B : Nat) (op : Agg) (f p : Nat) (gv : Value) (nx : Nat) (es : List Ent) (x : Value × El) (hx : IsSl x.1) (at_ : Nat) (hn : es.length < 2097152) (hnx : nx < 2097152) (w : World)
    (hE : EnvW w B op f) (hP : PileAt w B p f gv nx es) (hH : HeapF (aheadP (isTop op)) es.length (fE es)) :
    Calls Tryz.prog 112 #[.pointer (some ⟨p, 0, none⟩), .agg #[x.1, .float .f64 x.2.2, .int .i64 at_]] w fun e w' => e = .returned (.tuple #[]) ∧
      ∃ gv' es', es'.Perm (es ++ [(x, at_, nx)]) ∧ HeapF (aheadP (isTop op)) (es.length + 1) (fE es') ∧ PileAt w' B p f gv' (nx + 1) es' ∧ RowKit.Below B w w' := by
  obtain ⟨j0, ji, jz0, jz1, jz2⟩ := info_parts infoEnt
  obtain ⟨A, cap, rfl⟩ := own_form hP.2.2.1
  obtain ⟨xv, xe⟩ := x
  obtain ⟨Ax, mx, cx, rfl⟩ := hx
  dsimp only
  have HE := Lib.hid hE
  have HH := Lib.hid hH
  have hBw := hE.size
  have hpl := hP.2.1.lt
  have hBk := hP.2.1
  have HP1 := Lib.hid (hP.below (((RowKit.Below.refl _ _).alloc (Nat.le_refl _) (.cells #[.slice Ax mx cx, .float .f64 xe.2, .int .i64 at_] 143))))
  have p1 : w.cell? ⟨p, 1, none⟩ = some (.slice A es.length cap) := hBk.cell 1
  have p2 : w.cell? ⟨p, 2, none⟩ = some (.int .u64 nx) := hBk.cell 2
  have p3 : w.frozen? ⟨p, 1, none⟩ = false := hBk.frozen 1
  have HP := Lib.hid hP
  have HOE : Hid (((w.alloc (.cells #[.slice Ax mx cx, .float .f64 xe.2, .int .i64 at_] 143)).alloc (.cells #[.slice Ax mx cx, .float .f64 xe.2, .int .i64 at_, .int .u64 nx] 172)).drew.ownsRow B 172 4 (.slice A es.length cap) es.length (cellsP es)) := (hP.2.2.1.alloc _).alloc _
  have HBK : Hid (Blk ((w.alloc (.cells #[.slice Ax mx cx, .float .f64 xe.2, .int .i64 at_] 143)).alloc (.cells #[.slice Ax mx cx, .float .f64 xe.2, .int .i64 at_, .int .u64 nx] 172)).drew p 170 #[lessV f, .slice A es.length cap, .int .u64 nx]) := (hBk.alloc _).alloc _
  have HRW : Hid (Reads ((w.alloc (.cells #[.slice Ax mx cx, .float .f64 xe.2, .int .i64 at_] 143)).alloc (.cells #[.slice Ax mx cx, .float .f64 xe.2, .int .i64 at_, .int .u64 nx] 172)).drew (w.heap.size + 2) 4 (some ⟨w.heap.size + 1, 0, none⟩) 1 [.slice Ax mx cx, .float .f64 xe.2, .int .i64 at_, .int .u64 nx]) :=
    ⟨by simp, fun _ => ⟨_, _, rfl, by omega, fun j u hu => by have := new_cells (w.alloc (.cells #[.slice Ax mx cx, .float .f64 xe.2, .int .i64 at_] 143)) #[.slice Ax mx cx, .float .f64 xe.2, .int .i64 at_, .int .u64 nx] 172 (w.heap.size + 1) (by simp) j u hu; rw [add_mk] at this; exact this⟩⟩
  have HSZ : Hid (((w.alloc (.cells #[.slice Ax mx cx, .float .f64 xe.2, .int .i64 at_] 143)).alloc (.cells #[.slice Ax mx cx, .float .f64 xe.2, .int .i64 at_, .int .u64 nx] 172)).drew.heap.size = w.heap.size + 2) := by show ((w.alloc _).alloc _).heap.size = _; simp
  have HB2 : Hid (B ≤ ((w.alloc (.cells #[.slice Ax mx cx, .float .f64 xe.2, .int .i64 at_] 143)).alloc (.cells #[.slice Ax mx cx, .float .f64 xe.2, .int .i64 at_, .int .u64 nx] 172)).drew.heap.size) := by show _ ≤ _; rw [HSZ.out]; omega
  clear hE hP hBk hH
  go_enter Tryz.func112, Tryz.ntmps112
  go_upto_region 2 with fail
  apply wp_frame (R := fun A10 c10 w10 wx => wx = w10.setCell ⟨p, 1, none⟩ (.slice A10 (es.length + 1) c10) ∧
    Hid (w10.ownsRow B 172 4 (.slice A10 (es.length + 1) c10) (es.length + 1) (cellsP es ++ [.slice Ax mx cx, .float .f64 xe.2, .int .i64 at_, .int .u64 nx])) ∧
    Hid (((w.alloc (.cells #[.slice Ax mx cx, .float .f64 xe.2, .int .i64 at_] 143)).alloc (.cells #[.slice Ax mx cx, .float .f64 xe.2, .int .i64 at_, .int .u64 nx] 172)).drew.grownBy w10 (Value.ownBlock (.slice A es.length cap))) ∧
    Hid (Blk w10 p 170 #[lessV f, .slice A es.length cap, .int .u64 nx]))
  case hreg =>
    go_region_law ((refine step_append_any _ rfl (.tmp 10) (.tmp 17) _ rfl B 172 j0 _ 4 48 Tryz.underlying168 ji jz0 jz1 jz2 rfl (by decide) _ es.length _ rfl HOE.out (w.heap.size + 2) (some ⟨w.heap.size + 1, 0, none⟩) 1 1 [.slice Ax mx cx, .float .f64 xe.2, .int .i64 at_, .int .u64 nx] rfl HRW.out (by simp [Value.oneCell']) (by unfold maxLen; omega) (by omega) HB2.out ?_
                    intro v10 w10 hown10 hg10 hor10
                    obtain ⟨A10, c10, rfl⟩ := own_form hown10
                    have HBK1 : Blk w10 p 170 #[lessV f, .slice A es.length cap, .int .u64 nx] := HBK.out.grown hg10 (fun e => by have := (ElT.of_row HOE.out e.symm).same ⟨_, HBK.out⟩; cases this)
                    have x1 : w10.cell? ⟨p, 1, none⟩ = some (.slice A es.length cap) := HBK1.cell 1
                    have x2 : w10.frozen? ⟨p, 1, none⟩ = false := HBK1.frozen 1
                    have HOWN10 := Lib.hid hown10
                    have HG10 := Lib.hid hg10
                    have HBK10 := Lib.hid HBK1
                    clear HBK1 hg10 hor10 hown10))
    all_goals
      exact OnlyNormal.mk ⟨A10, c10, w10, rfl, rfl, HOWN10.out, HG10.out, HBK10.out⟩
  case himp =>
    rintro A10 c10 w10 wx ⟨rfl, HOWN10, HG10, HBK10⟩
    have hB1 := HBK10.out
    have x1 : w10.cell? ⟨p, 1, none⟩ = some (.slice A es.length cap) := hB1.cell 1
    have x2 : w10.cell? ⟨p, 2, none⟩ = some (.int .u64 nx) := hB1.cell 2
    have x3 : w10.frozen? ⟨p, 2, none⟩ = false := hB1.frozen 2
    have HPP := Lib.hid (pile_pushed (x := (.slice Ax mx cx, xe)) HP.out ⟨_, _, _, rfl⟩ hB1 HOWN10.out)
    have hbel : RowKit.Below B w ((w10.setCell ⟨p, 1, none⟩ (.slice A10 (es.length + 1) c10)).setCell ⟨p, 2, none⟩ (.int .u64 ((nx : Int) + 1))) :=
      (((((((RowKit.Below.refl B w).alloc hBw _).alloc (by simp; omega) _).drew).grown HG10.out HB2.out HP.out.base).setCell HP.out.1 _).setCell HP.out.1 _)
    have hsz := hbel.size
    have HEE := Lib.hid (HE.out.below hbel)
    have HBEL := Lib.hid hbel
    have HUU : Hid (∀ x : Int, x = es.length → Calls Tryz.prog 139 #[.pointer (some ⟨p, 0, none⟩), .int .i64 x] ((w10.setCell ⟨p, 1, none⟩ (.slice A10 (es.length + 1) c10)).setCell ⟨p, 2, none⟩ (.int .u64 ((nx : Int) + 1))) fun e w' => e = .returned (.tuple #[]) ∧
      ∃ es', es'.Perm (es ++ [((.slice Ax mx cx, xe), at_, nx)]) ∧ HeapF (aheadP (isTop op)) (es ++ [((Value.slice Ax mx cx, xe), at_, nx)]).length (fE es') ∧ PileAt w' B p f (.slice A10 (es.length + 1) c10) (nx + 1) es' ∧ ((w10.setCell ⟨p, 1, none⟩ (.slice A10 (es.length + 1) c10)).setCell ⟨p, 2, none⟩ (.int .u64 ((nx : Int) + 1))).grownBy w' (Value.ownBlock (.slice A10 (es.length + 1) c10))) := by
      intro x hx
      subst hx
      refine up_any B op f p _ (nx + 1) (es ++ [((.slice Ax mx cx, xe), at_, nx)]) es.length (by simp) (by simp; omega) _ HEE.out HPP.out ?_
      rw [List.length_append]
      exact up_start HH.out (fun j hj => fE_append hj _)
    clear hB1 hbel
    go_wp2_with (go_at_call 139; refine (HUU.out _ (by omega)).mono ?_; rintro e w2 ⟨rfl, es', hp, hh, hpp, hgg⟩)
    go_end0
    refine ⟨rfl, _, es', hp, by rw [List.length_append] at hh; exact hh, hpp, HBEL.out.grown hgg (by have := HBEL.out.size; omega) HPP.out.base⟩
end Go.Proofs.YtefdoineacfbhaaGreatDoor
