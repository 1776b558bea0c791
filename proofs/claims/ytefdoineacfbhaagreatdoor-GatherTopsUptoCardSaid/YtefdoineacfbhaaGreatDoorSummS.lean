/- A list's answer, where its function is the sum. -/
import Derived.Test.YtefdoineacfbhaaGreatDoorTotal
namespace Go.Proofs.YtefdoineacfbhaaGreatDoor
open Go Go.Proofs Go.Shelf Go.RowKit Go.Lib Go.Sort

def AnsRes (R : Nat → Prop) (w : World) (e : Ending) (w' : World) : Prop := ∃ r, e = .returned (.float .f64 r) ∧ R r ∧ RowKit.Below w.heap.size w w'

set_option maxHeartbeats 2000000 in
theorem listed_answer_sum (R : Nat → Prop) (B B2 sb : Nat) (vals : List Nat) (w : World) (h : SumAt w B B2 .sum sb vals)
    (hf : ∀ (W : World) (A : Option Addr) (c : Nat), Reads W W.heap.size 1 A vals.length (vals.map (.float .f64)) → Calls Tryz.prog 59 #[.slice A vals.length c] W (AnsRes R W)) :
    Calls Tryz.prog 227 #[.pointer (some ⟨sb, 0, none⟩)] w (AnsRes R w) := by
  obtain ⟨slv, gb, h1, _, h3⟩ := h
  obtain ⟨A, c, rfl⟩ := own_form h3
  have c0 : w.cell? ⟨sb, 0, none⟩ = some (.slice A vals.length c) := h1.cell 0
  have c1 : w.cell? ⟨sb, 1, none⟩ = some (.func (.func 59) #[] #[]) := h1.cell 1
  have hsb : sb < w.heap.size := h1.lt
  have HF := Lib.hid (hf w.drew A c (Reads.of_own h3))
  clear h1 h3 hf
  go_enter Tryz.func227, Tryz.ntmps227
  go_wp2_with fail
  go_region_held3 (fun W => W.cell? ⟨sb, 0, none⟩ = some (.slice A vals.length c) ∧ W.cell? ⟨sb, 1, none⟩ = some (.func (.func 59) #[] #[])) (first | go_keep | exact ⟨k0, k1⟩) ((go_at_call 59; refine (Hid.out HF).mono ?_; rintro e w2 ⟨r, rfl, hr, hb2⟩; have k0 := (hb2.cell (p := ⟨sb, 0, none⟩) hsb).trans c0; have k1 := (hb2.cell (p := ⟨sb, 1, none⟩) hsb).trans c1))
  go_wp2_with fail
  go_ret
  exact ⟨r, rfl, hr, (Below.refl _ _).drew.trans hb2⟩
end Go.Proofs.YtefdoineacfbhaaGreatDoor
