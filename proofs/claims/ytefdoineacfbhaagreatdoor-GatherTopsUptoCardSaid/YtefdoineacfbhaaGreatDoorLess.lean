/- The comparison of topk and bottomk. -/
import Derived.Test.YtefdoineacfbhaaGreatDoorGroupW
import Derived.Test.YtefdoineacfbhaaGreatDoorFloat
namespace Go.Proofs.YtefdoineacfbhaaGreatDoor
open Go Go.Proofs Go.Shelf Go.RowKit Go.Lib Go.Sort

def isTop : Agg → Bool
  | .topk => true
  | _ => false

set_option maxHeartbeats 2000000 in
theorem chosenLess_any (op : Agg) (wo : Bool) (labs : Value) (param : Nat) (text : ByteArray) (g : Nat) (x y : Value) (bx bY : Nat) (w : World)
    (hg : Blk w g 27 (gathV op wo labs param text)) :
    Calls Tryz.prog 72 #[.agg #[x, .float .f64 bx], .agg #[y, .float .f64 bY], .pointer (some ⟨g, 0, none⟩)] w fun e w' => e = .returned (.bool (lessF (isTop op) bx bY)) ∧ Grows w w' := by
  have hcell : w.cell? ⟨g, 0, none⟩ = some (.string (opB op)) := hg.cell 0
  have hlt := hg.lt
  have hcv : ((opB op).toList == [116, 111, 112, 107]) = isTop op := by cases op <;> (rw [ByteArray.toList_eq]; rfl)
  have hgr : Hid (Grows w ((w.alloc (.cells #[x, .float .f64 bx] 43)).alloc (.cells #[y, .float .f64 bY] 43))) := ((Grows.refl w).alloc _).alloc _
  clear hg
  generalize opB op = ob at hcell hcv
  unfold lessF
  cases h1 : (FloatKind.f64.format.order bx bx != some Ordering.eq) with
  | true =>
    go_enter Tryz.func72, Tryz.ntmps72
    go_wp2_with fail
    go_ret
    exact ⟨rfl, hgr.out⟩
  | false =>
    cases h2 : (FloatKind.f64.format.order bY bY != some Ordering.eq) with
    | true =>
      go_enter Tryz.func72, Tryz.ntmps72
      go_wp2_with fail
      go_ret
      exact ⟨rfl, hgr.out⟩
    | false =>
      cases h3 : isTop op with
      | true =>
        rw [h3] at hcv
        go_enter Tryz.func72, Tryz.ntmps72
        go_wp2_with fail
        go_ret
        exact ⟨rfl, hgr.out⟩
      | false =>
        rw [h3] at hcv
        go_enter Tryz.func72, Tryz.ntmps72
        go_wp2_with fail
        go_ret
        exact ⟨rfl, hgr.out⟩
end Go.Proofs.YtefdoineacfbhaaGreatDoor
