/- Calls through a summary; groups under way. -/
import Derived.Test.YtefdoineacfbhaaGreatDoorGatherP
import Derived.Test.YtefdoineacfbhaaGreatDoorSummS
namespace Go.Proofs.YtefdoineacfbhaaGreatDoor
open Go Go.Proofs Go.Shelf Go.RowKit Go.Lib Go.Sort

def ifT (op : Agg) : TypeId := match kd op with
  | .listed => 98
  | .counted => 101
  | _ => 104

structure IfaceOk (T : TypeId) (add ans : Nat) : Prop where
  eql : ∀ (W : World) (sb : Nat), (binOp .eql 71 (.iface T (.pointer (some ⟨sb, 0, none⟩))) .nilIface).run Tryz.prog W = .ok (.bool false) W
  ahead1 : ∀ (W : World) (sb : Nat), (nilAhead 359 T (.pointer (some ⟨sb, 0, none⟩)) "weir/gather.add").run Tryz.prog W = .ok (some false) W
  meth1 : ∀ (W : World) (sb : Nat), (method 359 T (.pointer (some ⟨sb, 0, none⟩)) "weir/gather.add").run Tryz.prog W = .ok (add, .pointer (some ⟨sb, 0, none⟩)) W
  ahead2 : ∀ (W : World) (sb : Nat), (nilAhead 359 T (.pointer (some ⟨sb, 0, none⟩)) "weir/gather.answer").run Tryz.prog W = .ok (some false) W
  meth2 : ∀ (W : World) (sb : Nat), (method 359 T (.pointer (some ⟨sb, 0, none⟩)) "weir/gather.answer").run Tryz.prog W = .ok (ans, .pointer (some ⟨sb, 0, none⟩)) W
  enter1 : ∀ (W : World) (a b : Value), (callFunc add #[a, b]).run Tryz.prog W = .ok (.enter add #[a, b]) W
  enter2 : ∀ (W : World) (a : Value), (callFunc ans #[a]).run Tryz.prog W = .ok (.enter ans #[a]) W
theorem iface1 : IfaceOk 98 226 227 :=
  ⟨fun W sb => by kernel_rfl, fun W sb => by kernel_rfl, fun W sb => by kernel_rfl, fun W sb => by kernel_rfl, fun W sb => by kernel_rfl, fun W a b => by kernel_rfl, fun W a => by kernel_rfl⟩
theorem iface2 : IfaceOk 101 228 229 :=
  ⟨fun W sb => by kernel_rfl, fun W sb => by kernel_rfl, fun W sb => by kernel_rfl, fun W sb => by kernel_rfl, fun W sb => by kernel_rfl, fun W a b => by kernel_rfl, fun W a => by kernel_rfl⟩
theorem iface3 : IfaceOk 104 230 231 :=
  ⟨fun W sb => by kernel_rfl, fun W sb => by kernel_rfl, fun W sb => by kernel_rfl, fun W sb => by kernel_rfl, fun W sb => by kernel_rfl, fun W a b => by kernel_rfl, fun W a => by kernel_rfl⟩
theorem ifaceOk (op : Agg) : IfaceOk (ifT op) (addN op) (ansN op) := by
  unfold ifT addN ansN
  cases kd op
  · exact iface1
  · exact iface2
  · exact iface3
  · exact iface3
theorem sumIs_iface {w : World} {B : Nat} {op : Agg} {sv : Value} {sb : Nat} (hk : kd op ≠ .none) (h : SumIs w B op sv sb) : sv = .iface (ifT op) (.pointer (some ⟨sb, 0, none⟩)) := by
  unfold SumIs at h
  unfold ifT
  cases hc : kd op
  all_goals
    rw [hc] at h
    dsimp only at h ⊢
  · exact h.1
  · exact h.1
  · exact h.1
  · exact absurd hc hk

def SbSet (ms : List (GM × Grp)) (k : Nat) (q : Nat) : Prop := ∃ y ∈ ms.take k, y.1.sb = q
theorem gm_far {w : World} {B : Nat} {op : Agg} {gv : Value} {ms : List (GM × Grp)} (h : GroupsMem w B op gv ms) {q : Nat} {e : TypeId} (hq : ElT w q e) (he : e ≠ sumT op) (k : Nat) : ¬ SbSet ms k q := by
  rintro ⟨y, hy, rfl⟩
  exact he (hq.same (sum_blk (h.2.1 y (List.mem_of_mem_take hy)).2.2.2.2).2)
theorem sumT_ne (op : Agg) : (78 : TypeId) ≠ sumT op ∧ (46 : TypeId) ≠ sumT op ∧ (43 : TypeId) ≠ sumT op ∧ (75 : TypeId) ≠ sumT op ∧ (25 : TypeId) ≠ sumT op := by
  unfold sumT
  cases kd op <;> decide
theorem SumIs.chg {S : Nat → Prop} {w w' : World} {B : Nat} {op : Agg} {sv : Value} {sb : Nat} (h : SumIs w B op sv sb) (hc : Chg S w w') (hs : ¬ S sb) (hg : ∀ q, kd op = .listed → ElT w q 27 → ¬ S q) : SumIs w' B op sv sb := by
  unfold SumIs at h ⊢
  cases hk : kd op
  all_goals
    rw [hk] at h
    dsimp only at h ⊢
  · obtain ⟨h0, h1, gb, h2, h3⟩ := h
    refine ⟨h0, h1, gb, h2.chg hc hs, ?_⟩
    cases op
    case quantile q =>
      obtain ⟨p0, cs, p1, p2⟩ := h3
      exact ⟨p0, cs, p1.chg hc (hg gb rfl ⟨_, p1⟩), p2⟩
    all_goals trivial
  · exact ⟨h.1, h.2.1, h.2.2.chg hc hs⟩
  · exact ⟨h.1, h.2.1, h.2.2.chg hc hs⟩
  · exact ⟨h.1, h.2.1, h.2.2.elim fun cs hb => ⟨cs, hb.chg hc hs⟩⟩
theorem gm_at {w w' : World} {B : Nat} {op : Agg} {gv : Value} {ms : List (GM × Grp)} (h : GroupsMem w B op gv ms) {k : Nat} (hk : k < ms.length) (hc : Chg (SbSet ms k) w w') : GroupAt w' B op ms[k] := by
  have ha := h.2.1 ms[k] (List.getElem_mem _)
  obtain ⟨n1, n2, n3, n4, n5⟩ := sumT_ne op
  refine ⟨ha.1, ha.2.1.chg hc (gm_far h ⟨_, ha.2.1⟩ n1 k), own_chg ha.2.2.1 hc (fun g hg => gm_far h (ElT.of_row ha.2.2.1 hg) n2 k), own_chg ha.2.2.2.1 hc (fun g hg => gm_far h (ElT.of_row ha.2.2.2.1 hg) n3 k), ha.2.2.2.2.chg hc ?_ (fun q hl hq => gm_far h hq (by unfold sumT; rw [hl]; decide) k)⟩
  rintro ⟨y, hy, e⟩
  obtain ⟨i, hi, rfl⟩ := List.mem_iff_getElem.1 hy
  rw [List.length_take] at hi
  rw [List.getElem_take] at e
  exact (h.2.2.at_ (i := i) (j := k) (by omega) hk (by omega)).2.2 e
theorem gm_labels {w w' : World} {B : Nat} {op : Agg} {gv : Value} {ms : List (GM × Grp)} (h : GroupsMem w B op gv ms) {k : Nat} (hc : Chg (SbSet ms k) w w') {x : GM × Grp} (hx : x ∈ ms) : w'.ownsRow B 46 2 x.1.lv x.2.1.length (cellsL x.2.1) :=
  own_chg (h.2.1 x hx).2.2.1 hc (fun g hg => gm_far h (ElT.of_row (h.2.1 x hx).2.2.1 hg) (sumT_ne op).2.1 k)
theorem gm_row {w w' : World} {B : Nat} {op : Agg} {gv : Value} {ms : List (GM × Grp)} (h : GroupsMem w B op gv ms) {k : Nat} (hc : Chg (SbSet ms k) w w') : w'.ownsRow B 75 1 gv ms.length (ms.map fun m => .pointer (some ⟨m.1.b, 0, none⟩)) :=
  own_chg h.1 hc (fun g hg => gm_far h (ElT.of_row h.1 hg) (sumT_ne op).2.2.2.1 k)
theorem sbSet_succ {ms : List (GM × Grp)} {k : Nat} (hk : k < ms.length) {q : Nat} : (SbSet ms k q ∨ q = ms[k].1.sb) → SbSet ms (k + 1) q := by
  rintro (⟨y, hy, e⟩ | e)
  · exact ⟨y, by rw [List.take_succ_eq_append_getElem hk]; exact List.mem_append_left _ hy, e⟩
  · exact ⟨ms[k], by rw [List.take_succ_eq_append_getElem hk]; exact List.mem_append_right _ (by simp), e.symm⟩
end Go.Proofs.YtefdoineacfbhaaGreatDoor
