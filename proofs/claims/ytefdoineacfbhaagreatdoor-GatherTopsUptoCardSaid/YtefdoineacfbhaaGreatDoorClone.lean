/- What slices.Clone computes of label lists. -/
import Derived.Test.YtefdoineacfbhaaGreatDoorCmp
namespace Go.Proofs.YtefdoineacfbhaaGreatDoor
open Go.RowKit Go.Sort

theorem infoLabel' : (Tryz.prog.info? 46).map (fun i => (i.zero, i.size, i.bytes)) = some (some (.agg #[.string ⟨#[]⟩, .string ⟨#[]⟩]), 2, 32) := by kernel_rfl

/-- A slice value that reads as a list of labels. -/
def LabsV (w : World) (B : Nat) (v : Value) (ls : List Lb) : Prop :=
  ∃ A n c, v = .slice A n c ∧ Reads w B 2 A n (cellsL ls) ∧ n ≤ c ∧ (A = none → c = 0)
theorem LabsV.below {w w' : World} {B : Nat} {v : Value} {ls : List Lb} (h : LabsV w B v ls) (hb : Below B w w') : LabsV w' B v ls := by
  obtain ⟨A, n, c, e, hr, h1, h2⟩ := h
  exact ⟨A, n, c, e, hr.below hb, h1, h2⟩
theorem LabsV.more {w : World} {B B' : Nat} {v : Value} {ls : List Lb} (h : LabsV w B v ls) (hB : B ≤ B') : LabsV w B' v ls := by
  obtain ⟨A, n, c, e, hr, h1, h2⟩ := h
  exact ⟨A, n, c, e, hr.more hB, h1, h2⟩
theorem LabsV.nil_ (w : World) (B : Nat) : LabsV w B (.slice none 0 0) [] := ⟨none, 0, 0, rfl, Reads.none_, Nat.le_refl _, fun _ => rfl⟩
theorem LabsV.of_own {w : World} {base n : Nat} {e : TypeId} {v : Value} {ls : List Lb} (h : w.ownsRow base e 2 v n (cellsL ls)) : LabsV w w.heap.size v ls := by
  rcases h.2 with ⟨rfl, rfl⟩ | ⟨g, cap, cur, rfl, _, _, hc, _⟩
  · exact ⟨none, 0, 0, rfl, Reads.of_own h, Nat.le_refl _, fun _ => rfl⟩
  · exact ⟨_, _, _, rfl, Reads.of_own h, hc, fun h => by cases h⟩

/-- A result that is a row of the call's own. -/
def OwnRes (w : World) (T : TypeId) (k n : Nat) (xs : List Value) (e : Ending) (w' : World) : Prop :=
  ∃ v, e = .returned v ∧ w'.ownsRow w.heap.size T k v n xs ∧ Below w.heap.size w w'

set_option maxHeartbeats 400000 in
set_option maxRecDepth 100000 in
theorem cloneL_any (v : Value) (ls : List Lb) (w : World) (h : LabsV w w.heap.size v ls) (hn : ls.length ≤ 1048576) :
    Calls Tryz.prog 37 #[v] w (OwnRes w 46 2 ls.length (cellsL ls)) := by
  obtain ⟨i0, hi, hz0, hz1, hz2⟩ := info_parts infoLabel'
  obtain ⟨A, n, c, rfl, hr, hnc, hA⟩ := h
  have hl : ls.length = n := by have := hr.1; rw [cellsL_length] at this; omega
  rw [hl] at hn ⊢
  cases A with
  | none =>
    obtain rfl := hA rfl
    obtain rfl : n = 0 := by omega
    obtain rfl : ls = [] := List.eq_nil_of_length_eq_zero hl
    have hq := Lib.run_eql_slice_nil (P := Tryz.prog) w 41 46 none 0 0 0 0 Tryz.underlying41
    clear hr hA hl hnc
    go_enter Tryz.func37, Tryz.ntmps37
    go_wp2
    go_ret
    exact ⟨_, rfl, World.ownsRow_nil _ _ _ _, Below.refl _ _⟩
  | some ad =>
    have hq := Lib.run_eql_slice_nil (P := Tryz.prog) w 41 46 (some ad) n c 0 0 Tryz.underlying41
    have HR := Lib.hid hr
    clear hr hA hl
    go_enter Tryz.func37, Tryz.ntmps37
    have hown0 : (w.alloc (.cells #[] 46)).ownsRow w.heap.size 46 2 (.slice (some ⟨w.heap.size, 0, none⟩) 0 0) 0 [] := World.ownsRow_made w #[] 0 (Nat.le_refl _) (by unfold maxLen; omega) rfl
    have HOWN := Lib.hid hown0
    clear hown0
    go_wp2_with (at_builtin
                 refine wpList_append_any _ rfl (.tmp 5) (.tmp 6) _ rfl w.heap.size 46 i0 _ 2 32 Tryz.underlying41 hi hz0 hz1 hz2 rfl (by omega) (.slice (some ⟨w.heap.size, 0, none⟩) 0 0) 0 [] rfl HOWN.out w.heap.size (some ad) n c (cellsL ls) rfl (HR.out.alloc (Nat.le_refl _) _)
                   (fun u hu => by obtain ⟨s, rfl⟩ := cellsL_one hu; rfl) (by unfold maxLen; omega) (by omega) (by simp) ?_
                 intro v1 w1 hown1 hg1 hat1)
    go_ret
    refine ⟨v1, rfl, by simpa using hown1, ((Below.refl _ _).alloc (Nat.le_refl _) _).grown hg1 (by simp) (by simp [Value.ownBlock])⟩
end Go.Proofs.YtefdoineacfbhaaGreatDoor
