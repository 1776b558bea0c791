/- From a law's walk to its row: what the arguments read as, what is left behind, a world that fits. -/
import Derived.Test.YtefdoineacfbhaaGreatDoorVecA
import Derived.Test.YtefdoineacfbhaaGreatDoorRows
import Derived.ProofKit
import Derived.OpenShut
import Derived.Carry
import Derived.Lay
import Derived.LaidMore
import Derived.Deep.DeepHandedRow
import Derived.Deep.Slices
import Derived.SliceStrings
import Derived.Lib.LaidTab
import Derived.Laws.Cover2
import Derived.Stop.Joined
namespace Go.Proofs.YtefdoineacfbhaaGreatDoor
open Go Go.Proofs Go.RowKit Go.Sort Go.ChangeShapes Go.WideShapes Go.ChangeAt Go.Deep

section
variable {H : Type} {enc : TypeId × Value → H} {P : Program}

/-! ### what is left behind -/
theorem trodAll_stays (hl : laidOutB P = true) {W W' : World} {sp : Nat → Bool} : ∀ (ts : List TypeId) (vs : List Value) (ds : List (DataW H)) (ps : List MemPlace),
    (∀ t ∈ ts, P.readableRec t = true ∧ t < P.types.size) → DataW.TrodAll enc P W 0 (fun _ => true) true ts vs ds ps → (∀ p ∈ ps, W.sameAt W' p) → (∀ p ∈ ps, sp p.block = true) → DataW.TrodAll enc P W' 0 sp true ts vs ds ps
  | [], vs, ds, ps, _, h, _, _ => by
    obtain ⟨rfl, rfl, rfl⟩ := trodAll_nil h
    exact trodAll_mk0
  | t :: ts, vs, ds, ps, ht, h, hs, hp => by
    obtain ⟨v, vs', d, ds', p, q, rfl, rfl, rfl, hd, hr⟩ := trodAll_cons h
    have h1 := ht t List.mem_cons_self
    exact trodAll_cons_mk (WideElems.Trod_stays hl h1.1 h1.2 hd (fun x hx => hs x (List.mem_append_left _ hx)) (fun x hx => hp x (List.mem_append_left _ hx)))
      (trodAll_stays hl ts vs' ds' q (fun t' h' => ht t' (List.mem_cons_of_mem _ h')) hr (fun x hx => hs x (List.mem_append_right _ hx)) (fun x hx => hp x (List.mem_append_right _ hx)))

/-- A law that returned true, below the heap's old size all as it was. -/
theorem law_post {s : ChangeSpec} {f : Func} {tb : TypeId} {W W' : World} {args : Array Value} {ds gs : List (DataW H)} {before : List MemPlace} (hl : laidOutB P = true) (hts : (f.params.toList.all fun t => P.readableRec t && decide (t < P.types.size)) = true)
    (hW : DataW.Whole enc P f.params.toList s.vars false W args.toList ds gs before) (hvars : s.vars = []) (hr : f.resultTypes = #[tb]) (htb : P.underlying tb = some .bool)
    (hres : (s.fn H (ds ++ gs)).results = [.lit (.bool true)]) (hargs : (s.fn H (ds ++ gs)).args = ds) (hvs : (s.fn H (ds ++ gs)).vars = []) (hb : RowKit.Below W.heap.size W W') : s.post enc P f false true false false W args (.bool true) W' := by
  have hlt : ∀ p ∈ before, p.block < W.heap.size := fun p hp => hW.lt p hp
  obtain ⟨p, q, hA, hV, rfl, hz, hn⟩ := id hW
  refine ⟨ds, gs, p ++ q, [], p, [], hW, ?_, ?_, ?_, hb.frame _, fun h => by cases h⟩
  · rw [hres, hr]
    exact trodAll_cons_mk (shut_bool htb _) trodAll_mk0
  · rw [hargs]
    refine trodAll_stays hl _ _ _ _ (fun t ht => ?_) hA (fun x hx => hb.same (hlt x (List.mem_append_left _ hx))) (fun x hx => by simpa using hlt x (List.mem_append_left _ hx))
    have := List.all_eq_true.1 hts t ht
    simpa using this
  · rw [hvs, hvars]
    rfl
end

/-! ### what the arguments read as -/
theorem float_lt {k : FloatKind} {b : Nat} (h : (Lit.float k b).wf = true) : b < 18446744073709551616 := by
  cases k <;> simp [Lit.wf] at h <;> omega
theorem trod_float {H : Type} {enc : TypeId × Value → H} {P : Program} {w : World} {base : Nat} {sp : Nat → Bool} {held : Bool} {t : TypeId} {k : FloatKind} {fuel : Nat} {cs : List Value} {x : DataW H × List MemPlace} (ht : P.underlying t = some (.float k)) (h : DataW.trod enc P w base sp held fuel t cs = some x) :
    ∃ b, cs = [.float k b] ∧ b < 2 ^ 64 := by
  cases fuel with
  | zero => simp [DataW.trod] at h
  | succ n =>
    unfold DataW.trod at h
    rw [ht] at h
    split at h <;> simp_all
    exact float_lt h.1.2
section
variable {H : Type} {enc : TypeId × Value → H} {P : Program} {w : World} {base : Nat} {held : Bool}
theorem list_of {X : Type} {R : Nat → X → Prop} : ∀ (n : Nat), (∀ i, i < n → ∃ x, R i x) → ∃ xs : List X, xs.length = n ∧ ∀ i (h : i < xs.length), R i xs[i]
  | 0, _ => ⟨[], rfl, fun i h => absurd h (by simp)⟩
  | n + 1, h => by
    obtain ⟨xs, hl, hx⟩ := list_of n (fun i hi => h i (by omega))
    obtain ⟨x, hxn⟩ := h n (by omega)
    refine ⟨xs ++ [x], by simp [hl], fun i hi => ?_⟩
    rw [List.length_append, List.length_singleton] at hi
    rcases Nat.lt_or_ge i xs.length with h1 | h1
    · rw [List.getElem_append_left h1]; exact hx i h1
    · rw [List.getElem_append_right h1]
      obtain rfl : i = n := by omega
      simpa using hxn
theorem spot_of {a : Addr} {u : Value} (h : w.cell? a = some u) : a = ⟨a.block, a.off, none⟩ ∧ a.block < w.heap.size := by
  refine ⟨?_, World.block_lt_of_cell? w a h⟩
  unfold World.cell? at h
  split at h
  · split at h
    · cases h
    · rename_i hs
      obtain ⟨b, o, s⟩ := a
      cases s with
      | none => rfl
      | some s => simp at hs
  · cases h

theorem flat_get {X : Type} {size : Nat} {f : X → List Value} (hf : ∀ x, (f x).length = size) : ∀ (xs : List X) (i j : Nat) (h : i < xs.length), j < size → (xs.flatMap f)[i * size + j]? = (f xs[i])[j]?
  | [], i, j, h, _ => by simp at h
  | x :: xs, i, j, h, hj => by
    rw [List.flatMap_cons]
    cases i with
    | zero => rw [Nat.zero_mul, Nat.zero_add, List.getElem?_append_left (by rw [hf]; exact hj)]; rfl
    | succ i =>
      rw [List.getElem?_append_right (by rw [hf, Nat.succ_mul]; omega), hf, show (i + 1) * size + j - size = i * size + j from by rw [Nat.succ_mul]; omega]
      simpa using flat_get hf xs i j (by simpa using h) hj
theorem flat_length {X : Type} {size : Nat} {f : X → List Value} (hf : ∀ x, (f x).length = size) (xs : List X) : (xs.flatMap f).length = xs.length * size := by
  induction xs with
  | nil => simp
  | cons x xs ih => rw [List.flatMap_cons, List.length_append, ih, hf, List.length_cons, Nat.succ_mul, Nat.add_comm]

/-- A slice, its elements known one by one. -/
theorem open_rows {X : Type} {t e : TypeId} {size fuel : Nat} {cs : List Value} {x : DataW H × List MemPlace} {f : X → List Value} {R : DataW H → X → Prop} (ht : P.underlying t = some (.slice e)) (hc : P.cellsOf e = size) (hs : 0 < size) (hf : ∀ x, (f x).length = size)
    (hel : ∀ (n : Nat) cs y, DataW.trod enc P w base (fun _ => true) held n e cs = some y → ∃ x : X, cs = f x ∧ R y.1 x)
    (h : DataW.trod enc P w base (fun _ => true) held fuel t cs = some x) :
    ∃ (A : Option Addr) (n c : Nat) (xs : List X), cs = [.slice A n c] ∧ xs.length = n ∧ n ≤ c ∧ (A = none → c = 0) ∧ Reads w w.heap.size size A n (xs.flatMap f) ∧ ∃ elems spare : List (DataW H), (x.1 = .slice elems spare ∨ (x.1 = .nil ∧ elems = [])) ∧ elems.length = n ∧ ∀ i (h : i < xs.length) d, elems[i]? = some d → R d xs[i] := by
  rcases open_slice ht h with ⟨rfl, rfl⟩ | ⟨a, len, cap, m, n, D, Pl, rfl, _, hl, hm, hmm, rfl, hx⟩
  · exact ⟨none, 0, 0, [], rfl, rfl, Nat.le_refl _, fun _ => rfl, ⟨by simp, fun h => absurd h (by omega)⟩, [], [], .inr ⟨rfl, rfl⟩, rfl, fun i h => absurd h (by simp)⟩
  · rw [if_pos rfl] at hmm
    subst hmm
    obtain ⟨xs, hxl, hxs⟩ := list_of (R := fun i (x : X) => w.cells? base (a.add (i * P.cellsOf e)) (P.cellsOf e) = some (f x) ∧ R (D i) x) len (fun i hi => by
      obtain ⟨cs', h1, h2⟩ := hx i (by omega)
      obtain ⟨x, rfl, h3⟩ := hel _ _ _ h2
      exact ⟨x, h1, h3⟩)
    refine ⟨some a, len, m, xs, rfl, hxl, hl, (fun h => by cases h), ⟨by rw [flat_length hf, hxl], fun hn => ?_⟩, (List.range len).map D, _, .inl rfl, by simp, fun i hi d hd => ?_⟩
    · have h0 := (hxs 0 (by omega)).1
      rw [hc] at h0
      obtain ⟨_, h1, h2⟩ := World.cells?_some h0
      have h3 := h2 0 hs
      rw [List.getElem?_eq_getElem (by omega)] at h3
      rw [Nat.zero_mul] at h3
      have ha : a = ⟨a.block, a.off, none⟩ ∧ a.block < w.heap.size := by
        have e0 : ∀ b : Addr, b.add 0 = b := fun b => rfl
        rw [e0, e0] at h3
        exact spot_of h3
      refine ⟨a.block, a.off, by rw [← ha.1], ha.2, fun j u hu => ?_⟩
      have hj : j < len * size := by
        have := (List.getElem?_eq_some_iff.1 hu).1
        rwa [flat_length hf, hxl] at this
      have hdm : j = j / size * size + j % size := by rw [Nat.mul_comm]; exact (Nat.div_add_mod j size).symm
      have hi : j / size < len := Nat.div_lt_of_lt_mul (by rwa [Nat.mul_comm])
      have hjm : j % size < size := Nat.mod_lt _ hs
      rw [hdm, flat_get hf xs _ _ (by omega) hjm] at hu
      have hi2 := (hxs (j / size) (by omega)).1
      rw [hc] at hi2
      obtain ⟨_, _, h5⟩ := World.cells?_some hi2
      have h6 := h5 (j % size) hjm
      rw [hu] at h6
      rw [ha.1, add_mk, add_mk] at h6
      rw [hdm, ← Nat.add_assoc]
      exact h6
    · have hil : i < len := by omega
      rw [List.getElem?_map, List.getElem?_range hil] at hd
      injection hd with hd
      subst hd
      exact (hxs i hi).2

/-- Bulk of a slice's parts. -/
theorem bulk_part {d : DataW H} {l : List (DataW H)} (h : d ∈ l) : Rows.uptoBulk d ≤ Rows.uptoBulkAll l := by
  induction l with
  | nil => cases h
  | cons x r ih =>
    simp only [Rows.uptoBulkAll]
    cases List.mem_cons.1 h with
    | inl e => subst e; omega
    | inr e => have := ih e; omega
theorem bulk_one (d : DataW H) : 1 ≤ Rows.uptoBulk d := by
  cases d with
  | lit l => cases l <;> simp [Rows.uptoBulk]
  | nil => simp [Rows.uptoBulk]
  | ptr d => simp [Rows.uptoBulk]
  | slice elems spare => simp [Rows.uptoBulk]
  | agg parts => simp [Rows.uptoBulk]
  | iface t d => simp [Rows.uptoBulk]
  | map entries => simp [Rows.uptoBulk]
  | held h => simp [Rows.uptoBulk]
theorem bulk_length (l : List (DataW H)) : l.length ≤ Rows.uptoBulkAll l := by
  induction l with
  | nil => simp [Rows.uptoBulkAll]
  | cons x r ih => have := bulk_one x; simp only [Rows.uptoBulkAll, List.length_cons]; omega
theorem bulk_slice {x : DataW H} {elems spare : List (DataW H)} (h : x = .slice elems spare ∨ (x = .nil ∧ elems = [])) : Rows.uptoBulkAll elems + 1 ≤ Rows.uptoBulk x := by
  rcases h with rfl | ⟨rfl, rfl⟩
  · simp only [Rows.uptoBulk]; omega
  · simp [Rows.uptoBulk, Rows.uptoBulkAll]

def StrOf (d : DataW H) (s : ByteArray) : Prop := s.size + 1 ≤ Rows.uptoBulk d
def LbOf (d : DataW H) (l : Lb) : Prop := l.1.size + l.2.size + 3 ≤ Rows.uptoBulk d
def LsOf (d : DataW H) (ls : List Lb) : Prop := ls.length + 1 ≤ Rows.uptoBulk d ∧ ∀ l ∈ ls, l.1.size + l.2.size ≤ Rows.uptoBulk d
theorem strOf_of {s : ByteArray} : StrOf (DataW.lit (H := H) (.string s.data.toList)) s := by
  unfold StrOf
  simp only [Rows.uptoBulk]
  rw [Array.length_toList]
  exact Nat.le_refl _
theorem LsOf.fine {d : DataW H} {ls : List Lb} (h : LsOf d ls) (hd : Rows.uptoBulk d ≤ 1048576) : FineL ls :=
  ⟨by have := h.1; omega, fun l hl => by have := h.2 l hl; omega⟩

theorem field_at {fs : Array Field} {m : Nat} {cs : List Value} {xs : List (DataW H × List MemPlace)} (hf : ∀ (i : Nat) (f : Field), fs[i]? = some f → DataW.trod enc P w base (fun _ => true) held m f.type ((cs.drop f.offset).take (P.cellsOf f.type)) = xs[i]?)
    (i : Nat) {f : Field} {t c : Nat} {cs' : List Value} {y : DataW H × List MemPlace} (h : fs[i]? = some f) (ht : f.type = t) (hc : P.cellsOf t = c) (hcs : (cs.drop f.offset).take c = cs') (hy : xs[i]? = some y) : DataW.trod enc P w base (fun _ => true) held m t cs' = some y := by
  subst ht hc hcs
  rw [hf i f h, hy]
set_option maxRecDepth 100000 in
theorem trod_label {n : Nat} {cs : List Value} {y : DataW H × List MemPlace} (h : DataW.trod enc Tryz.prog w base (fun _ => true) held n 46 cs = some y) : ∃ l : Lb, cs = [.string l.1, .string l.2] ∧ LbOf y.1 l := by
  obtain ⟨xs, m, _, rfl, hl, hxl, hf⟩ := DataW.trod_struct Tryz.underlying46 h
  have hC : Tryz.prog.cellsOf 46 = 2 := by kernel_rfl
  have hs : Tryz.prog.cellsOf 9 = 1 := by kernel_rfl
  rw [hC] at hl
  match cs, hl with
  | [c0, c1], _ =>
    match xs, hxl with
    | [y0, y1], _ =>
      have h0 := field_at hf 0 (t := 9) (cs' := [c0]) rfl rfl hs rfl rfl
      have h1 := field_at hf 1 (t := 9) (cs' := [c1]) rfl rfl hs rfl rfl
      obtain ⟨s0, e0, f0, _⟩ := DataW.trod_string Tryz.underlying9 h0
      obtain ⟨s1, e1, f1, _⟩ := DataW.trod_string Tryz.underlying9 h1
      obtain rfl : c0 = .string s0 := by injection e0
      obtain rfl : c1 = .string s1 := by injection e1
      refine ⟨(s0, s1), rfl, ?_⟩
      subst f0 f1
      have a0 : StrOf (DataW.lit (H := H) (.string s0.data.toList)) s0 := strOf_of
      have a1 : StrOf (DataW.lit (H := H) (.string s1.data.toList)) s1 := strOf_of
      unfold StrOf at a0 a1
      unfold LbOf
      simp only [List.map_cons, List.map_nil, Rows.uptoBulk, Rows.uptoBulkAll] at a0 a1 ⊢
      omega

theorem open_labels {fuel : Nat} {cs : List Value} {x : DataW H × List MemPlace} (h : DataW.trod enc Tryz.prog w base (fun _ => true) held fuel 41 cs = some x) :
    ∃ v ls, cs = [v] ∧ LabsV w w.heap.size v ls ∧ LsOf x.1 ls := by
  obtain ⟨A, n, c, ls, rfl, hl, hnc, hA, hr, elems, spare, hx, hel, hR⟩ := open_rows (X := Lb) (size := 2) (f := fun l => [.string l.1, .string l.2]) (R := LbOf) Tryz.underlying41 (by kernel_rfl) (by omega) (fun _ => rfl) (fun n cs y h => trod_label h) h
  have hb := bulk_slice hx
  refine ⟨_, ls, rfl, ⟨A, n, c, rfl, hr, hnc, hA⟩, ?_, fun l hm => ?_⟩
  · have := bulk_length elems; omega
  · obtain ⟨i, hi, rfl⟩ := List.mem_iff_getElem.1 hm
    have he : i < elems.length := by omega
    have h1 := hR i hi _ (List.getElem?_eq_getElem he)
    have h2 := bulk_part (List.getElem_mem he)
    unfold LbOf at h1
    omega

def ElOf (w : World) (d : DataW H) (x : Value × El) : Prop := LabsV w w.heap.size x.1 x.2.1 ∧ (Rows.uptoBulk d ≤ 1048576 → FineL x.2.1) ∧ x.2.2 < 2 ^ 64
set_option maxRecDepth 100000 in
theorem trod_elem {n : Nat} {cs : List Value} {y : DataW H × List MemPlace} (h : DataW.trod enc Tryz.prog w base (fun _ => true) held n 43 cs = some y) : ∃ x : Value × El, cs = [x.1, .float .f64 x.2.2] ∧ ElOf w y.1 x := by
  obtain ⟨xs, m, _, rfl, hl, hxl, hf⟩ := DataW.trod_struct Tryz.underlying43 h
  have hC : Tryz.prog.cellsOf 43 = 2 := by kernel_rfl
  have hs : Tryz.prog.cellsOf 41 = 1 := by kernel_rfl
  have hs2 : Tryz.prog.cellsOf 25 = 1 := by kernel_rfl
  rw [hC] at hl
  match cs, hl with
  | [c0, c1], _ =>
    match xs, hxl with
    | [y0, y1], _ =>
      have h0 := field_at hf 0 (t := 41) (cs' := [c0]) rfl rfl hs rfl rfl
      have h1 := field_at hf 1 (t := 25) (cs' := [c1]) rfl rfl hs2 rfl rfl
      obtain ⟨v, ls, e0, hv, hls⟩ := open_labels h0
      obtain ⟨b, e1, hb⟩ := trod_float Tryz.underlying25 h1
      obtain rfl : c0 = v := by injection e0
      obtain rfl : c1 = .float .f64 b := by injection e1
      refine ⟨(c0, (ls, b)), rfl, hv, fun hbk => hls.fine ?_, hb⟩
      simp only [List.map_cons, List.map_nil, Rows.uptoBulk, Rows.uptoBulkAll] at hbk
      omega

theorem open_vec {fuel : Nat} {cs : List Value} {x : DataW H × List MemPlace} (h : DataW.trod enc Tryz.prog w base (fun _ => true) held fuel 28 cs = some x) :
    ∃ (A : Option Addr) (n c : Nat) (es : List El), cs = [.slice A n c] ∧ VecV w w.heap.size (.slice A n c) es ∧ (Rows.uptoBulk x.1 ≤ 1048576 → FineE es) ∧ ∀ e ∈ es, e.2 < 2 ^ 64 := by
  obtain ⟨A, n, c, vs, rfl, hl, hnc, hA, hr, elems, spare, hx, hel, hR⟩ := open_rows (X := Value × El) (size := 2) (f := fun x => [x.1, .float .f64 x.2.2]) (R := ElOf w) Tryz.underlying28 (by kernel_rfl) (by omega) (fun _ => rfl) (fun n cs y h => trod_elem h) h
  have hb := bulk_slice hx
  have each : ∀ x ∈ vs, ∃ d ∈ elems, ElOf w d x := fun x hm => by
    obtain ⟨i, hi, rfl⟩ := List.mem_iff_getElem.1 hm
    have he : i < elems.length := by omega
    exact ⟨_, List.getElem_mem he, hR i hi _ (List.getElem?_eq_getElem he)⟩
  refine ⟨A, n, c, vs.map (·.2), rfl, ⟨A, n, c, vs, rfl, hr, rfl, fun x hm => ?_, hnc, hA⟩, fun hbk => ⟨?_, fun e he => ?_⟩, fun e he => ?_⟩
  · obtain ⟨d, _, h1⟩ := each x hm; exact h1.1
  · have := bulk_length elems; rw [List.length_map]; omega
  · obtain ⟨x, hm, rfl⟩ := List.mem_map.1 he
    obtain ⟨d, hd, h1⟩ := each x hm
    exact h1.2.1 (by have := bulk_part hd; omega)
  · obtain ⟨x, hm, rfl⟩ := List.mem_map.1 he
    obtain ⟨d, hd, h1⟩ := each x hm
    exact h1.2.2

theorem flat_one (names : List ByteArray) : names.flatMap (fun s => [Value.string s]) = names.map Value.string := by
  induction names with
  | nil => rfl
  | cons s names ih => rw [List.flatMap_cons, ih]; rfl
theorem open_names {fuel : Nat} {cs : List Value} {x : DataW H × List MemPlace} (h : DataW.trod enc Tryz.prog w base (fun _ => true) held fuel 24 cs = some x) :
    ∃ (A : Option Addr) (m c : Nat) (names : List ByteArray), cs = [.slice A m c] ∧ Reads w w.heap.size 1 A m (names.map Value.string) ∧ m + 1 ≤ Rows.uptoBulk x.1 := by
  obtain ⟨A, n, c, names, rfl, hl, hnc, hA, hr, elems, spare, hx, hel, hR⟩ := open_rows (X := ByteArray) (size := 1) (f := fun s => [.string s]) (R := StrOf) Tryz.underlying24 (by kernel_rfl) (by omega) (fun _ => rfl) (fun n cs y h => by
    obtain ⟨s, rfl, rfl, _⟩ := DataW.trod_string Tryz.underlying9 h
    exact ⟨s, rfl, strOf_of⟩) h
  have hb := bulk_slice hx
  have := bulk_length elems
  refine ⟨A, n, c, names, rfl, ?_, by omega⟩
  rwa [flat_one names] at hr
end
end Go.Proofs.YtefdoineacfbhaaGreatDoor
