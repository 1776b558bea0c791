/- Proved: weirlaw22.GatherTops returns true for every Play and every k, and its arguments read behind the call as before. Conditions: what it reads is of bulk at most 1048576; the six tables of the row lie as the program text lays them. -/
import Derived.Test.YtefdoineacfbhaaGreatDoorCards
import Derived.Test.YtefdoineacfbhaaGreatDoorTie
import Derived.Test.YtefdoineacfbhaaGreatDoorWrap
import Derived.Test.YtefdoineacfbhaaGreatDoorTops
import Derived.SevenTiedAt
import Derived.Stop.LaidErr
namespace Go.Proofs.YtefdoineacfbhaaGreatDoor
open Go Go.Proofs Go.RowKit Go.Sort Go.ChangeShapes Go.WideShapes Go.ChangeAt Go.Deep
namespace fnTops

theorem own : ownKnob Tryz.prog.godebug = none := by kernel_rfl
theorem tab_head {rest : List (String × DataW Unit)} {W : World} (h : laidMet Tryz.prog (("internal/strconv.uint64pow10", Rows.laid_internal_strconv_uint64pow10) :: rest) W) : PowTab W :=
  Lib.tabIs_of_head (k := .u64) (zs := Lib.pow10Tab) (g := 2) (t := 224) (e := 121) (n := 20) (by kernel_rfl) (by kernel_rfl) Tryz.underlying224 Tryz.underlying121 (by kernel_rfl) (by kernel_rfl)
    (by rw [show (Lib.tabData .u64 Lib.pow10Tab : DataW Unit) = Rows.laid_internal_strconv_uint64pow10 by kernel_rfl]; exact h)
/-- The table of powers, from the row's list. -/
theorem table {W : World} (h : laidMetH Tryz.prog Rows.gatherTopsUptoRow.laid W) : PowTab W := by
  rw [MakeChecks.laidMetH_plain _ _ _ (by kernel_rfl)] at h
  exact tab_head (laidMet.tail (laidMet.tail (laidMet.tail h)))

section
variable {H : Type} {enc : TypeId × Value → H} {w : World} {base : Nat} {held : Bool}
set_option maxRecDepth 100000 in
theorem open_play {n : Nat} {cs : List Value} {y : DataW H × List MemPlace} (h : DataW.trod enc Tryz.prog w base (fun _ => true) held n 30 cs = some y) (hb : Rows.uptoBulk y.1 ≤ 1048576) :
    ∃ (ob : ByteArray) (wo : Bool) (A' : Option Addr) (m c' : Nat) (names : List ByteArray) (param : Nat) (text : ByteArray) (A : Option Addr) (k c : Nat) (es : List El),
      cs = [.string ob, .bool wo, .slice A' m c', .float .f64 param, .string text, .slice A k c] ∧ VecV w w.heap.size (.slice A k c) es ∧ FineE es ∧ Reads w w.heap.size 1 A' m (names.map .string) ∧ m ≤ 1048576 := by
  obtain ⟨xs, m0, _, rfl, hl, hxl, hf⟩ := DataW.trod_struct Tryz.underlying30 h
  have hC : Tryz.prog.cellsOf 30 = 6 := by kernel_rfl
  have hG : Tryz.prog.cellsOf 27 = 5 := by kernel_rfl
  have hV : Tryz.prog.cellsOf 28 = 1 := by kernel_rfl
  have hS : Tryz.prog.cellsOf 9 = 1 := by kernel_rfl
  have hB : Tryz.prog.cellsOf 4 = 1 := by kernel_rfl
  have hN : Tryz.prog.cellsOf 24 = 1 := by kernel_rfl
  have hF : Tryz.prog.cellsOf 25 = 1 := by kernel_rfl
  rw [hC] at hl
  match cs, hl with
  | [c0, c1, c2, c3, c4, c5], _ =>
    match xs, hxl with
    | [y0, y1], _ =>
      have h0 := field_at hf 0 (t := 27) (cs' := [c0, c1, c2, c3, c4]) rfl rfl hG rfl rfl
      have h1 := field_at hf 1 (t := 28) (cs' := [c5]) rfl rfl hV rfl rfl
      simp only [List.map_cons, List.map_nil, Rows.uptoBulk, Rows.uptoBulkAll] at hb
      obtain ⟨A, k, c, es, e5, hv, hfe, _⟩ := open_vec h1
      obtain rfl : c5 = .slice A k c := by injection e5
      obtain ⟨zs, m1, _, ey, hl1, hzl, hg⟩ := DataW.trod_struct Tryz.underlying27 h0
      match zs, hzl with
      | [z0, z1, z2, z3, z4], _ =>
        have g0 := field_at hg 0 (t := 9) (cs' := [c0]) rfl rfl hS rfl rfl
        have g1 := field_at hg 1 (t := 4) (cs' := [c1]) rfl rfl hB rfl rfl
        have g2 := field_at hg 2 (t := 24) (cs' := [c2]) rfl rfl hN rfl rfl
        have g3 := field_at hg 3 (t := 25) (cs' := [c3]) rfl rfl hF rfl rfl
        have g4 := field_at hg 4 (t := 9) (cs' := [c4]) rfl rfl hS rfl rfl
        subst ey
        simp only [List.map_cons, List.map_nil, Rows.uptoBulk, Rows.uptoBulkAll] at hb
        obtain ⟨ob, e0, _⟩ := DataW.trod_string Tryz.underlying9 g0
        obtain ⟨wo, e1, _⟩ := DataW.trod_bool Tryz.underlying4 g1
        obtain ⟨A', m, c', names, e2, hr, hm⟩ := open_names g2
        obtain ⟨param, e3, _⟩ := trod_float Tryz.underlying25 g3
        obtain ⟨text, e4, _⟩ := DataW.trod_string Tryz.underlying9 g4
        obtain rfl : c0 = .string ob := by injection e0
        obtain rfl : c1 = .bool wo := by injection e1
        obtain rfl : c2 = .slice A' m c' := by injection e2
        obtain rfl : c3 = .float .f64 param := by injection e3
        obtain rfl : c4 = .string text := by injection e4
        exact ⟨ob, wo, A', m, c', names, param, text, A, k, c, es, rfl, hv, hfe (by omega), hr, by omega⟩
end

set_option maxRecDepth 100000 in
/-- What the walk gives, for every argument. -/
theorem contract (H : Type) (enc : TypeId × Value → H) (W : World) (base : Nat) (args : Array Value) (ds gs : List (DataW H)) (before : List MemPlace)
    (hval : ∀ (j : Nat) t v, Tryz.f7.params[j]? = some t → args[j]? = some v → Value.okWide Tryz.prog W .any base t v)
    (hW : DataW.Whole enc Tryz.prog Tryz.f7.params.toList Rows.gatherTopsSpec.vars false W args.toList ds gs before) (hk : Rows.uptoSmall H (ds ++ gs) = true) (hL : laidMetH Tryz.prog Rows.gatherTopsUptoRow.laid W) :
    Calls Tryz.prog 7 args W fun e W' => ∃ v, e = .returned v ∧ Rows.gatherTopsSpec.post enc Tryz.prog Tryz.f7 false true false false W args v W' := by
  have hW' := hW
  obtain ⟨p, q, hA0, hV, rfl, hfz, hnd⟩ := hW
  have hA : DataW.TrodAll enc Tryz.prog W 0 (fun _ => true) true Tryz.f7.params.toList args.toList ds p := hA0
  rw [Tryz.params7] at hA hval
  obtain ⟨v0, v1, d0, d1, p0, p1, rfl, rfl, rfl, h0, h1⟩ := trodAll_two hA
  obtain ⟨rfl, rfl⟩ := trodVars_none hV
  have hbulk : Rows.uptoBulkAll ([d0, d1] ++ ([] : List (DataW H))) ≤ 1048576 := of_decide_eq_true hk
  simp only [List.cons_append, List.nil_append, Rows.uptoBulkAll] at hbulk
  obtain ⟨cs, rfl, _⟩ := okWide_struct Tryz.underlying30 (hval 0 30 v0 rfl rfl)
  obtain ⟨ki, rfl, rfl, rfl, wk⟩ := open_int Tryz.underlying3 (hval 1 3 v1 rfl rfl) h1
  obtain ⟨fuel, hf0⟩ := h0
  obtain ⟨ob, wo, A', m, c', names, param, text, A, k, c, es, hcs, hv, hfe, hr, hm⟩ := open_play hf0 (by simp only; omega)
  have hcs : cs = #[.string ob, .bool wo, .slice A' m c', .float .f64 param, .string text, .slice A k c] := by
    exact Array.ext' (show cs.toList = _ from hcs)
  subst hcs
  have hki : -9223372036854775808 ≤ ki ∧ ki ≤ 9223372036854775807 := bounds_i64 wk
  refine (tops_any ob wo A' m c' names param text A k c es ki W hki hv hfe hr hm (table hL)).mono fun e W' ⟨he, hb⟩ => ?_
  subst he
  exact ⟨_, rfl, law_post (tb := 4) (by kernel_rfl) (by kernel_rfl) hW' rfl rfl Tryz.underlying4 rfl rfl rfl hb⟩
/-- The witness's arguments. -/
def wargs : Array Value := #[.agg #[.string ⟨#[]⟩, .bool false, .slice none 0 0, .float .f64 0, .string ⟨#[]⟩, .slice none 0 0], .int .i64 0]
noncomputable abbrev W0 (os : Os) : World := World.laidAll Tryz.prog os Rows.gatherTopsUptoRow.laid
theorem laid_met (os : Os) : laidMetH Tryz.prog Rows.gatherTopsUptoRow.laid ((W0 os).forCall (fun _ _ => 0) ⟨#[], wargs, []⟩).memory := by
  rw [MakeChecks.laidMetH_plain _ _ _ (by kernel_rfl)]
  exact laidMet_laidAll _ (by kernel_rfl) (by kernel_rfl)
def wdata {H : Type} : List (DataW H) := [.agg [.agg [.lit (.string []), .lit (.bool false), .nil, .lit (.float .f64 0), .lit (.string [])], .nil], .lit (.int .i64 0)]
theorem reads (os : Os) {H : Type} (enc : TypeId × Value → H) : DataW.whole enc Tryz.prog ((W0 os).forCall (fun _ _ => 0) ⟨#[], wargs, []⟩).memory Tryz.f7.params.toList Rows.gatherTopsSpec.vars false wargs.toList 8 = some (wdata, [], []) := by kernel_rfl

set_option maxRecDepth 100000 in
theorem witness (os : Os) {H : Type} (enc : TypeId × Value → H) : ∃ (w : World) (tape : Tape) (i : Input), w.os = os ∧ (w.forCall tape i).Shaped Tryz.checked.prog ∧ i.vars = [] ∧ Input.okWide Tryz.checked.prog (w.forCall tape i) .any w.heap.size 7 i ∧
    (Rows.OpenSpec.upto Rows.gatherTopsSpec).preRow enc Tryz.checked.prog Tryz.f7 Rows.gatherTopsUptoRow.domain false Rows.gatherTopsUptoRow.laid (w.forCall tape i).memory i.args ∧ ({} : Assume).holds Tryz.checked.prog (lone (Frame.enter Tryz.checked.prog 7 i.args .normal) [] (w.forCall tape i)) := by
  have hok : Input.okWideB Tryz.checked.prog ((W0 os).forCall (fun _ _ => 0) ⟨#[], wargs, []⟩) 7 ⟨#[], wargs, []⟩ = true := by kernel_rfl
  refine ⟨W0 os, fun _ _ => 0, ⟨#[], wargs, []⟩, World.laidAll_os _ _ _, World.shaped_of_ZipB (by kernel_rfl) (by kernel_rfl), (Input.okWide_of_okWideB (base := 0) hok).1, (Input.okWide_of_okWideB hok).2,
    OpenSpec.preRow_of_cond 8 (reads os enc) (by kernel_rfl) (fun k hk => by cases hk; kernel_rfl) (by kernel_rfl) (laid_met os), ?_⟩
  simp only [Assume.holds]
  exact ⟨by simp, by simp, fun _ => Modest.zero, by simp, by simp⟩

set_option maxRecDepth 100000 in
theorem liftedUpto (os : Os) (started : os.Started) (H : Type) (enc : TypeId × Value → H) (F : Stop.Interp) :
    ReturnsInHanded {} Tryz.checked os 7 .any ((Rows.OpenSpec.upto Rows.gatherTopsSpec).preRow enc Tryz.prog Tryz.f7 Rows.gatherTopsUptoRow.domain false Rows.gatherTopsUptoRow.laid) (((Rows.OpenSpec.upto Rows.gatherTopsSpec).at F).post enc Tryz.prog Tryz.f7 false true false false) := by
  refine returnsInHanded_of_row (C := Tryz.checked) (s := Rows.OpenSpec.upto Rows.gatherTopsSpec) own started (by kernel_rfl) Tryz.func7 (witness os enc) ?_
  intro W base args ds gs before hval hW _ hk _ hL _ _
  exact contract H enc W base args ds gs before hval hW (hk _ rfl) hL

theorem saidUpto : Rows.GatherTopsUptoSaid :=
  OpenClaim.holds_of_cond 7 Tryz.f7 rfl rfl rfl rfl rfl rfl rfl ⟨rfl, rfl, rfl, rfl, rfl⟩ rfl rfl rfl rfl rfl (by kernel_rfl) Tryz.func7 (by kernel_rfl)
    (of_decide_eq_true (by kernel_rfl)) (by unfold Func.isWrapper; first | (rw [if_pos (by decide +kernel)]; kernel_rfl) | (rw [if_neg (by decide +kernel)]; exact ⟨rfl, rfl⟩))
    (fun os started H enc _ F => by rw [OpenClaim.pre_eq_preRow]; exact liftedUpto os started H enc F)

/-- No parameter wants a stand-in; the program's own looks are off. -/
theorem plain (f : FuncId) (fn : Func) (hf : Tryz.pinned.checked.prog.funcNamed "weir/weirlaw22.GatherTops" = some f) (hfn : Tryz.pinned.checked.prog.funcs[f]? = some fn) :
    false = Tryz.pinned.checked.prog.looks [] ∧ ∀ (j : Nat) t, fn.params[j]? = some t → Tryz.pinned.checked.prog.wantsStandIn t = false := by
  obtain rfl : f = 7 := Option.some.inj ((show Tryz.prog.funcNamed "weir/weirlaw22.GatherTops" = some 7 by kernel_rfl).symm.trans hf) |>.symm
  obtain rfl : fn = Tryz.f7 := (Option.some.inj (Tryz.func7.symm.trans hfn)).symm
  refine ⟨by kernel_rfl, fun j t ht => ?_⟩
  rw [Tryz.params7] at ht
  have hm : t ∈ [30, 3] := by simpa using Array.mem_of_getElem? ht
  have hall : ([30, 3].all fun u => !Tryz.prog.wantsStandIn u) = true := by kernel_rfl
  exact (show Tryz.prog.wantsStandIn t = false by simpa using List.all_eq_true.1 hall t hm)
end fnTops

/-- The card. -/
theorem gatherTops_cardUpto : Rows.GatherTopsUptoCardSaid :=
  Claim7.holds_tied_plain_at .later [] _ _ _ _ fnTops.saidUpto (fun _ h => by cases h) (by kernel_rfl) (fun _ h => by cases h) gatherTopsUpto_row_tie rfl ⟨rfl, rfl⟩ (by kernel_rfl) rfl fnTops.plain (by kernel_rfl)
#print axioms gatherTops_cardUpto
end Go.Proofs.YtefdoineacfbhaaGreatDoor
