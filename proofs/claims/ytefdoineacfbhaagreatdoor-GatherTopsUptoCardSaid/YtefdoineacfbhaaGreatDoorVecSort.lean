/- The sort of a vector in memory. -/
import Derived.Test.YtefdoineacfbhaaGreatDoorVecA
namespace Go.Proofs.YtefdoineacfbhaaGreatDoor
open Go Go.Proofs Go.Shelf Go.RowKit Go.Lib Go.Sort

/-- A slice value's block. -/
theorem Reads.keepBut {w w' : World} {B B' size n g : Nat} {A : Option Addr} {xs : List Value} (h : Reads w B size A n xs) (hg : ∀ ad, A = some ad → ad.block ≠ g) (hB : B ≤ B')
    (hk : ∀ b o, b < B → b ≠ g → w'.cell? ⟨b, o, none⟩ = w.cell? ⟨b, o, none⟩) : Reads w' B' size A n xs :=
  ⟨h.1, fun hn => by
    obtain ⟨b, off, e, hb, hc⟩ := h.2 hn
    exact ⟨b, off, e, by omega, fun j u hu => (hk _ _ hb (hg _ e)).trans (hc j u hu)⟩⟩
theorem LabsV.keepBut {w w' : World} {B B' g : Nat} {v : Value} {ls : List Lb} (h : LabsV w B v ls) (hg : v.ownBlock ≠ some g) (hB : B ≤ B')
    (hk : ∀ b o, b < B → b ≠ g → w'.cell? ⟨b, o, none⟩ = w.cell? ⟨b, o, none⟩) : LabsV w' B' v ls := by
  obtain ⟨A, n, c, rfl, hr, h1, h2⟩ := h
  refine ⟨A, n, c, rfl, hr.keepBut (fun ad e => ?_) hB hk, h1, h2⟩
  subst e
  intro h
  exact hg (by rw [← h]; rfl)

section
variable (w : World) (g : Nat)
/-- What the sort asks of an element. -/
def GoodE (x : Value × El) : Prop := LabsV w w.heap.size x.1 x.2.1 ∧ x.1.ownBlock ≠ some g ∧ x.2.1.length ≤ 1048576
abbrev AE := {x : Value × El // GoodE w g x}
instance : Inhabited (AE w g) := ⟨⟨(.slice none 0 0, [], 0), LabsV.nil_ _ _, by simp [Value.ownBlock], by simp⟩⟩
def encE (x : AE w g) : List Value := [x.1.1, .float .f64 x.1.2.2]
end

theorem sliceValue_one {w : World} {B : Nat} {v : Value} {ls : List Lb} (h : LabsV w B v ls) : v.oneCell' = true := by
  obtain ⟨A, n, c, rfl, _⟩ := h; rfl

theorem swk_other {α : Type} [Inhabited α] {enc : α → List Value} {k : Nat} {w W : World} {blk off : Nat} {dk : Array α} (h : SWK enc k w blk off dk W) (hblk : blk < w.heap.size) :
    w.grownBy W (some blk) ∧ (∀ c e, w.heap[blk]? = some (.cells c e (0, 0)) → ∃ c', W.heap[blk]? = some (.cells c' e (0, 0)) ∧ c'.size = c.size) := by
  obtain ⟨n, os, rfl⟩ := h
  unfold sortWorldK putRowK putRow
  constructor
  · refine ⟨rfl, rfl, rfl, by rw [size_grow]; show _ ≤ (mapBlock _ _ _).heap.size + _; simp [mapBlock, ahead], fun i hi hne => ?_⟩
    rw [heap_grow_old _ _ (by simpa [mapBlock, ahead] using hi)]
    show (Array.modify _ _ _)[i]? = _
    rw [Array.getElem?_modify, if_neg (by rintro rfl; exact hne rfl)]
    rfl
  · intro c e hc
    rw [heap_grow_old _ _ (by simpa [mapBlock, ahead] using hblk)]
    refine ⟨putCells id off (flatK enc k dk) c, ?_, by simp [putCells]⟩
    show (Array.modify _ _ _)[blk]? = _
    rw [Array.getElem?_modify, if_pos rfl]
    show Option.map _ w.heap[blk]? = _
    rw [hc]; rfl

theorem swk_cell {α : Type} [Inhabited α] {enc : α → List Value} {k : Nat} {w W : World} {blk off : Nat} {dk : Array α} (h : SWK enc k w blk off dk W) (hblk : blk < w.heap.size) :
    ∀ b o, b < w.heap.size → b ≠ blk → W.cell? ⟨b, o, none⟩ = w.cell? ⟨b, o, none⟩ := fun b o hb hne =>
  World.cell?_of_block ((swk_other h hblk).1.block b hb (fun e => hne (Option.some.inj e)))

theorem cmpLays (w : World) (g : Nat) (hg : g < w.heap.size) (size : Nat) : CmpLays Tryz.prog 39 #[] (encE w g) 2 (fun x y => cmpE x.1 y.1) g 0 size w := by
  intro m os dk hdk x y
  have S : SWK (encE w g) 2 w g 0 dk (sortWorldK (encE w g) 2 w g 0 m dk os) := ⟨m, os, rfl⟩
  generalize sortWorldK (encE w g) 2 w g 0 m dk os = W at S
  have hx := x.2.1.keepBut (w' := W) (B' := W.heap.size) x.2.2.1 S.le (fun b o hb hne => swk_cell S hg b o hb hne)
  have hy := y.2.1.keepBut (w' := W) (B' := W.heap.size) y.2.2.1 S.le (fun b o hb hne => swk_cell S hg b o hb hne)
  exact vecCmp_any x.1.1 y.1.1 x.1.2.2 y.1.2.2 x.1.2.1 y.1.2.1 W hx hy x.2.2.2 y.2.2.2

theorem isAggE : ∀ w, (isAgg 43).run Tryz.prog w = .ok true w := Tryz.isAgg43
theorem sizeE : ∀ w, (Go.sizeOf 43).run Tryz.prog w = .ok 2 w := Tryz.sizeOf43

theorem isort_map {α β : Type} (f : α → β) (lt : α → α → Bool) (lt' : β → β → Bool) (h : ∀ x y, lt x y = lt' (f x) (f y)) (l : List α) : (isort lt l).map f = isort lt' (l.map f) := by
  have hi : ∀ (x : α) (l : List α), (ins lt x l).map f = ins lt' (f x) (l.map f) := by
    intro x l
    induction l with
    | nil => rfl
    | cons y l ih =>
      rw [ins, List.map_cons, ins, h]
      split
      · rw [List.map_cons, ih]
      · rfl
  induction l with
  | nil => rfl
  | cons x l ih => rw [isort, hi, ih]; rfl

theorem sortVec (g n cap base : Nat) (vs : List (Value × El)) (w : World) (hown : w.ownsRow base 43 2 (.slice (some ⟨g, 0, none⟩) n cap) n (cellsE vs)) (hl : vs.length = n)
    (hgood : ∀ x ∈ vs, GoodE w g x) (hn : n ≤ 1048576) :
    Calls Tryz.prog 38 #[.slice (some ⟨g, 0, none⟩) n cap, .func (.func 39) #[] #[]] w fun e w' => e = .returned (.tuple #[]) ∧
      w'.ownsRow base 43 2 (.slice (some ⟨g, 0, none⟩) n cap) n (cellsE (isort (ltOf cmpE) vs)) ∧ w.grownBy w' (some g) := by
  have hlt := (hown.lt g rfl).2
  obtain ⟨hlen, h | ⟨g', cap', cur, hv, hb, hheap, hnc, hcm, hcs, htk⟩⟩ := id hown
  · cases h.1
  obtain ⟨rfl, rfl⟩ : g' = g ∧ cap' = cap := by injection hv with h1 h2 h3; injection h1 with h1; injection h1 with h1; exact ⟨h1.symm, h3.symm⟩
  let d0 : Array (AE w g') := (vs.attachWith (GoodE w g') hgood).toArray
  have hd0 : d0.size = n := by simp [d0, hl]
  have hd0v : d0.toList.map Subtype.val = vs := by
    simp only [d0, List.map_attachWith, List.attach_map_subtype_val]
  have henc : ∀ (d : Array (AE w g')) (t : Nat), t < d.size * 2 → (cellsE (d.toList.map Subtype.val))[t]? = some (flatK (encE w g') 2 d)[t]! := by
    intro d t ht
    have h2 : t / 2 < d.size := by omega
    rw [get_flatK _ _ _ _ ht]
    have hlen2 : t / 2 < (d.toList.map Subtype.val).length := by simpa using h2
    have hg := cellsE_get (d.toList.map Subtype.val) (t / 2) hlen2
    have hel : (d.toList.map Subtype.val)[t / 2] = d[t / 2]!.1 := by
      rw [getElem!_pos d _ h2]; simp
    rw [hel] at hg
    rcases Nat.mod_two_eq_zero_or_one t with hm | hm
    · rw [hm, show t = t / 2 * 2 from by omega, hg.1, show t / 2 * 2 / 2 = t / 2 from by omega]; rfl
    · rw [hm, show t = t / 2 * 2 + 1 from by omega, hg.2, show (t / 2 * 2 + 1) / 2 = t / 2 from by omega]; rfl
  have hH : HoldsK (encE w g') 2 w g' 0 d0 := by
    intro t ht
    rw [size_flatK] at ht
    rw [Nat.zero_add]
    refine ⟨?_, hown.frozenAt t⟩
    rw [hown.cellAt t (by rw [← hd0]; exact ht), ← hd0v]
    exact henc d0 t ht
  have R : RowK (encE w g') 2 w g' 0 d0 := ⟨fun x => rfl, fun x v hv => by
    simp only [encE, List.mem_cons, List.not_mem_nil, or_false] at hv
    rcases hv with rfl | rfl
    · exact sliceValue_one x.2.1
    · rfl, hH, hlt⟩
  have eg : ∀ args w, (callFunc 39 args).run Tryz.prog w = .ok (.enter 39 args) w := enters_of Tryz.func39 (by kernel_rfl) rfl
  have hcon := StE.sortStable StE.stP 2 isAggE sizeE (encE w g') 39 #[] g' 0 cap' n d0 w R (fun x y => cmpE x.1 y.1) (cmpLs_tot.comap (fun x : AE w g' => x.1.2.1)) eg (cmpLays w g' hlt d0.size) d0 w hd0 hd0 (SWK.start hH) (by omega)
  refine Calls.mono hcon ?_
  rintro e w' ⟨rfl, d', hd', S, hl'⟩
  obtain ⟨hgb, hbl⟩ := swk_other S hlt
  obtain ⟨c', hc', hcs'⟩ := hbl cur _ hheap
  refine ⟨rfl, ⟨?_, .inr ⟨g', cap', c', rfl, hb, hc', hnc, hcm, by rw [hcs', hcs], ?_⟩⟩, hgb⟩
  · rw [cellsE_length, isort_length, hl]
  · have hmap : d'.toList.map Subtype.val = isort (ltOf cmpE) vs := by
      rw [hl', isort_map Subtype.val (ltOf fun x y : AE w g' => cmpE x.1 y.1) (ltOf cmpE) (fun x y => rfl), hd0v]
    have hH' := S.holds hlt hH (by omega)
    apply List.ext_getElem?
    intro t
    by_cases ht : t < n * 2
    · have h1 := (hH' t (by rw [size_flatK, hd']; exact ht)).1
      rw [Nat.zero_add, cell_of_row w' g' t c' _ _ hc'] at h1
      rw [List.getElem?_take, if_pos ht, ← hmap, henc d' t (by rw [hd']; exact ht), Array.getElem?_toList, h1]
      rfl
    · rw [List.getElem?_eq_none (by simp; omega), List.getElem?_eq_none (by rw [cellsE_length, isort_length, hl]; omega)]
end Go.Proofs.YtefdoineacfbhaaGreatDoor
