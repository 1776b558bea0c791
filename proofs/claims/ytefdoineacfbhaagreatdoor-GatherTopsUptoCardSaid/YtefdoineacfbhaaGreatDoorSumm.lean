/- Summaries: what add and answer do. -/
import Derived.Test.YtefdoineacfbhaaGreatDoorGroup
import Derived.Test.YtefdoineacfbhaaGreatDoorChg
namespace Go.Proofs.YtefdoineacfbhaaGreatDoor
open Go Go.Proofs Go.Shelf Go.RowKit Go.Lib Go.Sort

attribute [local go_sem] run_store_float

/-- Does the value x take the place of v? -/
def takesF (mx : Bool) (v x : Nat) : Bool :=
  (FloatKind.f64.format.order v v != some .eq) || (mx && FloatKind.f64.format.order x v == some .gt) || (!mx && FloatKind.f64.format.order x v == some .lt)
def outF (mx : Bool) (vals : List Nat) : Option Nat := vals.foldl (fun a x => match a with
  | none => some x
  | some v => if takesF mx v x then some x else some v) none

/-- A summary that vals were added to. -/
def SumAt (w : World) (B B2 : Nat) (op : Agg) (sb : Nat) (vals : List Nat) : Prop := match kd op with
  | .listed => ∃ slv gb, Blk w sb 100 #[slv, fnV op gb] ∧ ParAt w B op gb ∧ w.ownsRow B2 25 1 slv vals.length (vals.map (.float .f64))
  | .counted => Blk w sb 103 #[.int .i64 vals.length, .bool (isOne op)]
  | .outer => Blk w sb 106 #[.bool (outF (isMax op) vals).isSome, .bool (isMax op), .float .f64 ((outF (isMax op) vals).getD 0)]
  | .none => True
theorem SumAt.start {w : World} {B B2 : Nat} {op : Agg} {sv : Value} {sb : Nat} (h : SumIs w B op sv sb) : SumAt w B B2 op sb [] := by
  unfold SumIs at h
  unfold SumAt
  cases hk : kd op
  all_goals
    rw [hk] at h
    dsimp only at h ⊢
  · obtain ⟨_, _, gb, h2, h3⟩ := h
    exact ⟨_, gb, h2, h3, World.ownsRow_nil _ _ _ _⟩
  · exact h.2.2
  · exact h.2.2
theorem ParAt.below {w w' : World} {B : Nat} {op : Agg} {gb : Nat} (h : ParAt w B op gb) (hb : RowKit.Below w.heap.size w w') : ParAt w' B op gb := by
  cases op
  case quantile q => exact ⟨h.1, h.2.elim fun cs hc => ⟨cs, hc.1.below hb hc.1.lt, hc.2⟩⟩
  all_goals trivial
theorem SumAt.below {w w' : World} {B B2 : Nat} {op : Agg} {sb : Nat} {vals : List Nat} (h : SumAt w B B2 op sb vals) (hb : RowKit.Below w.heap.size w w') : SumAt w' B B2 op sb vals := by
  unfold SumAt at h ⊢
  cases hk : kd op
  all_goals
    rw [hk] at h
    dsimp only at h ⊢
  · obtain ⟨slv, gb, h1, h2, h3⟩ := h
    exact ⟨slv, gb, h1.below hb h1.lt, h2.below hb, own_below h3 hb⟩
  · exact h.below hb h.lt
  · exact h.below hb h.lt

def addN (op : Agg) : Nat := match kd op with
  | .listed => 226
  | .counted => 228
  | _ => 230
def ansN (op : Agg) : Nat := match kd op with
  | .listed => 227
  | .counted => 229
  | _ => 231

def AddRes (B B2 : Nat) (op : Agg) (sb : Nat) (vals : List Nat) (w : World) (e : Ending) (w' : World) : Prop :=
  e = .returned (.tuple #[]) ∧ SumAt w' B B2 op sb vals ∧ Chg (fun k => k = sb ∨ (B2 ≤ k ∧ ElT w k 25)) w w'

theorem counted_add (op : Agg) (hk : kd op = .counted) (B B2 sb : Nat) (vals : List Nat) (v : Nat) (w : World) (h : SumAt w B B2 op sb vals) (hn : vals.length < 2097152) :
    Calls Tryz.prog 228 #[.pointer (some ⟨sb, 0, none⟩), .float .f64 v] w (AddRes B B2 op sb (vals ++ [v]) w) := by
  unfold SumAt at h
  rw [hk] at h
  dsimp only at h
  have c0 : w.cell? ⟨sb, 0, none⟩ = some (.int .i64 vals.length) := h.cell 0
  have f0 : w.frozen? ⟨sb, 0, none⟩ = false := h.frozen 0
  have H := Lib.hid h
  have HK := Lib.hid hk
  clear h hk
  go_enter Tryz.func228, Tryz.ntmps228
  go_wp2_with fail
  go_end0
  refine ⟨rfl, ?_, ((Chg.refl (fun k => k = sb ∨ (B2 ≤ k ∧ ElT w k 25)) _).setCell (p := ⟨sb, 0, none⟩) (.inr (.inl rfl)) _)⟩
  unfold SumAt
  rw [HK.out]
  have := H.out.set_ 0 (.int .i64 ((vals.length : Int) + 1))
  simpa using this

theorem counted_one (op : Agg) (hk : kd op = .counted) (ho : isOne op = true) (B B2 sb : Nat) (vals : List Nat) (w : World) (h : SumAt w B B2 op sb vals) :
    Calls Tryz.prog 229 #[.pointer (some ⟨sb, 0, none⟩)] w fun e w' => e = .returned (.float .f64 4607182418800017408) ∧ w = w' := by
  unfold SumAt at h
  rw [hk] at h
  dsimp only at h
  have c1 : w.cell? ⟨sb, 1, none⟩ = some (.bool true) := by rw [h.cell 1, ho]; rfl
  clear h hk ho
  go_enter Tryz.func229, Tryz.ntmps229
  go_wp2_with fail
  go_ret
  exact ⟨rfl, rfl⟩
theorem counted_count (op : Agg) (hk : kd op = .counted) (ho : isOne op = false) (B B2 sb : Nat) (vals : List Nat) (w : World) (h : SumAt w B B2 op sb vals) :
    Calls Tryz.prog 229 #[.pointer (some ⟨sb, 0, none⟩)] w fun e w' => e = .returned (.float .f64 (FloatKind.f64.nearest vals.length)) ∧ w = w' := by
  unfold SumAt at h
  rw [hk] at h
  dsimp only at h
  have c0 : w.cell? ⟨sb, 0, none⟩ = some (.int .i64 vals.length) := h.cell 0
  have c1 : w.cell? ⟨sb, 1, none⟩ = some (.bool false) := by rw [h.cell 1, ho]; rfl
  clear h hk ho
  go_enter Tryz.func229, Tryz.ntmps229
  go_wp2_with fail
  go_ret
  exact ⟨rfl, rfl⟩
theorem outer_answer (op : Agg) (hk : kd op = .outer) (B B2 sb : Nat) (vals : List Nat) (w : World) (h : SumAt w B B2 op sb vals) :
    Calls Tryz.prog 231 #[.pointer (some ⟨sb, 0, none⟩)] w fun e w' => e = .returned (.float .f64 ((outF (isMax op) vals).getD 0)) ∧ w = w' := by
  unfold SumAt at h
  rw [hk] at h
  dsimp only at h
  have c2 : w.cell? ⟨sb, 2, none⟩ = some (.float .f64 ((outF (isMax op) vals).getD 0)) := h.cell 2
  clear h hk
  generalize (outF (isMax op) vals).getD 0 = x at *
  go_enter Tryz.func231, Tryz.ntmps231
  go_wp2_with fail
  go_ret
  exact ⟨rfl, rfl⟩

theorem infoF64 : (Tryz.prog.info? 25).map (fun i => (i.zero, i.size, i.bytes)) = some (some (.float .f64 0), 1, 8) := by kernel_rfl

set_option maxHeartbeats 2000000 in
theorem listed_add (op : Agg) (hk : kd op = .listed) (B B2 sb : Nat) (vals : List Nat) (v : Nat) (w : World) (h : SumAt w B B2 op sb vals) (hn : vals.length < 2097152) (hB : B2 ≤ w.heap.size) :
    Calls Tryz.prog 226 #[.pointer (some ⟨sb, 0, none⟩), .float .f64 v] w (AddRes B B2 op sb (vals ++ [v]) w) := by
  unfold SumAt at h
  rw [hk] at h
  dsimp only at h
  obtain ⟨slv, gb, h1, h2, h3⟩ := h
  obtain ⟨A, c, rfl⟩ := own_form h3
  obtain ⟨j0, ji, jz0, jz1, jz2⟩ := info_parts infoF64
  have c0 : w.cell? ⟨sb, 0, none⟩ = some (.slice A vals.length c) := h1.cell 0
  have f0 : w.frozen? ⟨sb, 0, none⟩ = false := h1.frozen 0
  have hsb := h1.lt
  have HO := Lib.hid h3
  have H1 := Lib.hid h1
  have H2 := Lib.hid h2
  have HK := Lib.hid hk
  have HO1 := Lib.hid (h3.alloc (.cells #[.float .f64 v] 25))
  have HB1 := Lib.hid (h1.alloc (.cells #[.float .f64 v] 25))
  clear h1 h2 h3 hk
  go_enter Tryz.func226, Tryz.ntmps226
  go_wp2_with (at_builtin
               refine wpList_append_own _ rfl _ _ _ rfl B2 25 j0 (.float .f64 0) 1 8 Tryz.underlying68 ji jz0 jz1 jz2 rfl (by decide) _ vals.length _ rfl HO1.out ⟨w.heap.size, 0, none⟩ 1 1 [.float .f64 v] rfl rfl (new_cells _ _ _ _ rfl) (by simp [Value.oneCell']) (by unfold maxLen; omega) (by omega) (by rw [World.size_alloc]; omega) ?_
               intro v9 w9 hown9 hg9 _
               have HB9 : Blk w9 sb 100 #[.slice A vals.length c, fnV op gb] := HB1.out.grown hg9 (fun e => by have := (ElT.of_row HO1.out e.symm).same ⟨_, HB1.out⟩; cases this)
               have x0 : w9.cell? ⟨sb, 0, none⟩ = some (.slice A vals.length c) := HB9.cell 0
               have x1 : w9.frozen? ⟨sb, 0, none⟩ = false := HB9.frozen 0
               have HBK9 := Lib.hid HB9
               have HO9 := Lib.hid hown9
               have HG9 := Lib.hid hg9
               obtain ⟨A9, c9, rfl⟩ := own_form hown9
               clear HB9 hg9 hown9)
  go_end0
  have hbs : Blk (w9.setCell ⟨sb, 0, none⟩ (.slice A9 (vals.length + 1) c9)) sb 100 #[.slice A9 (vals.length + 1) c9, fnV op gb] := by
    have := HBK9.out.set_ 0 (.slice A9 (vals.length + 1) c9)
    simpa using this
  refine ⟨rfl, ?_, ?_⟩
  · unfold SumAt
    rw [HK.out]
    refine ⟨.slice A9 (vals.length + 1) c9, gb, hbs, ?_, ?_⟩
    · have hp1 : ParAt w9 B op gb := (H2.out.kept (World.grownBy_alloc w _ none) (fun r e => nomatch e)).kept HG9.out (fun r hr => .inr ⟨_, ElT.of_row HO1.out hr, by decide⟩)
      exact hp1.kept (Lib.grownBy_setCell w9 sb 0 _) (fun r hr => .inr ⟨100, by injection hr with hr; subst hr; exact ⟨_, HBK9.out⟩, by decide⟩)
    · rw [List.length_append, List.map_append]
      refine HO9.out.kept (Lib.grownBy_setCell w9 sb 0 _) ?_
      cases hq : Value.ownBlock (.slice A9 (vals.length + 1) c9) with
      | none => exact .inl rfl
      | some q => exact .inr (fun e => by injection e with e; subst e; have := (ElT.of_row HO9.out hq).same ⟨_, HBK9.out⟩; cases this)
  · exact (((Chg.refl (fun k => k = sb ∨ (B2 ≤ k ∧ ElT w k 25)) w).alloc _).trans (Chg.of_grown HG9.out (fun k hk _ => .inr ⟨(row_lt HO.out hk).1, ElT.of_row HO.out hk⟩))).setCell (p := ⟨sb, 0, none⟩) (.inr (.inl rfl)) _
end Go.Proofs.YtefdoineacfbhaaGreatDoor
