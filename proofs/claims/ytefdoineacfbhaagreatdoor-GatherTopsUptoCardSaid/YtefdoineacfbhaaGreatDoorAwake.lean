/- awake: a plain sum is reckoned. -/
import Derived.Test.YtefdoineacfbhaaGreatDoorTopsP
namespace Go.Proofs.YtefdoineacfbhaaGreatDoor
open Go Go.Proofs Go.Shelf Go.RowKit Go.Lib Go.Sort

attribute [local go_sem] run_store_float

theorem addOk_listed {op : Agg} (hk : kd op = .listed) : AddOk op := by
  intro B B2 sb vals v w h hn hB
  have e : addN op = 226 := by unfold addN; rw [hk]
  rw [e]
  exact listed_add op hk B B2 sb vals v w h hn hB
theorem addOk_counted {op : Agg} (hk : kd op = .counted) : AddOk op := by
  intro B B2 sb vals v w h hn hB
  have e : addN op = 228 := by unfold addN; rw [hk]
  rw [e]
  exact counted_add op hk B B2 sb vals v w h hn
theorem ansOk_group : AnsOk .group (fun _ => True) (fun _ r => r = B1) := by
  intro B B2 sb vals w _ h _
  refine (counted_one .group rfl rfl B B2 sb vals w h).mono ?_
  rintro e w' ⟨rfl, rfl⟩
  exact ⟨_, rfl, rfl, Below.refl _ _⟩
theorem ansOk_sum12 : AnsOk .sum (fun vals => vals = [B1, B2]) (fun _ r => r = B3) := by
  intro B B2' sb vals w hv h _
  subst hv
  refine listed_answer_sum (fun r => r = B3) B B2' sb [B1, B2] w h fun W A c hr => ?_
  refine (sum_12 A c W hr).mono ?_
  rintro e w' ⟨rfl, hb⟩
  exact ⟨_, rfl, rfl, hb⟩

def lbA (v : UInt8) : Lb := (⟨#[97]⟩, ⟨#[v]⟩)
def esA : List El := [([lbA 49], B1), ([lbA 50], B2)]
theorem esA_vec : vectorP esA = some esA := by decide +kernel
theorem esA_groups : groupsE [] false esA = [([], esA)] := by decide +kernel
theorem esA_out : vectorP [([], B3)] = some [([], B3)] := by decide +kernel
theorem esA_fine : FineE esA := by
  refine ⟨by decide, fun x hx => ?_⟩
  unfold esA at hx
  simp only [List.mem_cons, List.not_mem_nil, or_false] at hx
  rcases hx with rfl | rfl
  all_goals
    refine ⟨by simp, fun l hl => ?_⟩
    obtain rfl := List.mem_singleton.1 hl
    exact ⟨by decide, by decide⟩

theorem reads_blk {w : World} {g : Nat} {t : TypeId} {cs : Array Value} {n size : Nat} (h : Blk w g t cs) (hl : cs.size = n * size) : Reads w w.heap.size size (some ⟨g, 0, none⟩) n cs.toList :=
  ⟨by simpa using hl, fun _ => ⟨g, 0, rfl, h.lt, fun j u hu => by rw [Nat.zero_add, h.cell]; simpa using hu⟩⟩

def wA (w : World) : World := (((w.alloc (.cells #[.string ⟨#[97]⟩, .string ⟨#[49]⟩] 46)).alloc (.cells #[.string ⟨#[97]⟩, .string ⟨#[50]⟩] 46)).alloc
  (.cells #[.slice (some ⟨w.heap.size, 0, none⟩) 1 1, .float .f64 4607182418800017408, .slice (some ⟨w.heap.size + 1, 0, none⟩) 1 1, .float .f64 4611686018427387904] 43))
theorem vecA (w : World) : VecV (wA w) (wA w).heap.size (.slice (some ⟨w.heap.size + 1 + 1, 0, none⟩) 2 2) esA := by
  have h1 : Blk (wA w) w.heap.size 46 #[.string ⟨#[97]⟩, .string ⟨#[49]⟩] := ((Blk.new _ _ _).alloc _).alloc _
  have h2 : Blk (wA w) (w.heap.size + 1) 46 #[.string ⟨#[97]⟩, .string ⟨#[50]⟩] := (Blk.new_at _ _ _ _ (by simp)).alloc _
  have h3 : Blk (wA w) (w.heap.size + 1 + 1) 43 #[.slice (some ⟨w.heap.size, 0, none⟩) 1 1, .float .f64 4607182418800017408, .slice (some ⟨w.heap.size + 1, 0, none⟩) 1 1, .float .f64 4611686018427387904] := Blk.new_at _ _ _ _ (by simp)
  refine ⟨_, 2, 2, [(.slice (some ⟨w.heap.size, 0, none⟩) 1 1, ([lbA 49], B1)), (.slice (some ⟨w.heap.size + 1, 0, none⟩) 1 1, ([lbA 50], B2))], rfl, reads_blk (n := 2) (size := 2) h3 rfl, rfl, fun x hx => ?_, Nat.le_refl _, fun h => by cases h⟩
  simp only [List.mem_cons, List.not_mem_nil, or_false] at hx
  rcases hx with rfl | rfl
  · exact ⟨_, 1, 1, rfl, reads_blk (n := 1) (size := 2) h1 rfl, Nat.le_refl _, fun h => by cases h⟩
  · exact ⟨_, 1, 1, rfl, reads_blk (n := 1) (size := 2) h2 rfl, Nat.le_refl _, fun h => by cases h⟩
theorem belowA (w : World) : RowKit.Below w.heap.size w (wA w) := (((Below.refl _ _).alloc (Nat.le_refl _) _).alloc (by simp) _).alloc (by simp; omega) _
theorem gatherA (w : World) (ht : PowTab w) : Calls Tryz.prog 11 #[.agg #[.string ⟨#[115, 117, 109]⟩, .bool false, .slice none 0 0, .float .f64 0, .string ⟨#[]⟩], .slice (some ⟨w.heap.size + 1 + 1, 0, none⟩) 2 2] (wA w) fun e w' =>
    ∃ A c Ax cx, e = .returned (.tuple #[.slice (some ⟨A, 0, none⟩) 1 c, .int .i64 0]) ∧ w'.cell? ⟨A, 0, none⟩ = some (.slice Ax 0 cx) ∧ w'.cell? ⟨A, 1, none⟩ = some (.float .f64 B3) ∧ RowKit.Below (wA w).heap.size (wA w) w' := by
  have h := gather_sum .sum (by intro e; cases e) (by intro e; cases e) (fun vals => vals = [B1, B2]) (fun _ r => r = B3) (addOk_listed rfl) ansOk_sum12 false none 0 0 [] 0 ⟨#[]⟩ (by intro q e; cases e)
    (.slice (some ⟨w.heap.size + 1 + 1, 0, none⟩) 2 2) esA (wA w) (by
      intro V hV g hg
      rw [esA_vec] at hV
      injection hV with hV
      subst hV
      rw [esA_groups] at hg
      obtain rfl := List.mem_singleton.1 hg
      rfl) (vecA w) esA_fine Reads.none_ (by omega) (ht.below (belowA w))
  refine h.mono ?_
  rintro e w' ⟨hb, hr⟩
  rw [esA_vec] at hr
  obtain ⟨out, ⟨rs, hrl, hR, rfl⟩, hv⟩ := hr
  rw [esA_groups] at hrl hv
  simp only [esA_groups] at hR
  match rs, hrl with
  | [r], _ =>
    have hr3 : r = B3 := hR 0 (by decide) (by simp)
    subst hr3
    have e1 : ((([([], esA)] : List (List Lb × List El)).zip [B3]).map fun q => ((q.1.1, q.2) : El)) = [([], B3)] := rfl
    rw [e1, esA_out] at hv
    obtain ⟨v, rfl, vs, hm, ho, hl, _⟩ := hv
    have hvl : vs.length = 1 := by simpa using congrArg List.length hm
    obtain ⟨x, rfl⟩ := List.length_eq_one_iff.1 hvl
    obtain ⟨xv, xe⟩ := x
    have hxe : xe = ([], B3) := by injection hm
    subst hxe
    obtain ⟨A, c, rfl, _, hlt⟩ := ho.form (by simp)
    have hlx := hl _ List.mem_cons_self
    obtain ⟨Ax, cx, hxv⟩ := own_form hlx
    dsimp only at hxv
    have c0 := ho.cells (g := A) rfl 0 xv rfl
    have c1 := ho.cells (g := A) rfl 1 (.float .f64 B3) rfl
    rw [add_mk] at c0 c1
    subst hxv
    exact ⟨A, c, Ax, cx, rfl, c0, c1, hb⟩

set_option maxHeartbeats 4000000 in
set_option maxRecDepth 100000 in
theorem awake_any (w : World) (ht : PowTab w) : Calls Tryz.prog 8 #[] w fun e w' => e = .returned (.bool true) ∧ RowKit.Below w.heap.size w w' := by
  have HG := Lib.hid (gatherA w ht)
  have HBA := Lib.hid (belowA w)
  have hfl : (FloatKind.f64.format.order B3 4613937818241073152 == some .eq) = true := by decide +kernel
  clear ht
  unfold wA at HG HBA
  generalize B3 = b3 at HG hfl
  go_enter Tryz.func8, Tryz.ntmps8
  go_wp2_with (go_at_call 11; refine (Hid.out HG).mono ?_; rintro e w2 ⟨A, c, Ax, cx, rfl, c0, c1, hb2⟩; have HB2 := Lib.hid hb2; clear hb2)
  go_ret
  exact ⟨rfl, HBA.out.trans (HB2.out.mono HBA.out.size)⟩
end Go.Proofs.YtefdoineacfbhaaGreatDoor
