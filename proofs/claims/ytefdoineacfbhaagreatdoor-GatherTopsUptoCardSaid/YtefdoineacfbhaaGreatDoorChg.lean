/- What a piece of code may have written: a set of blocks. No program in sight. -/
import Derived.Test.YtefdoineacfbhaaGreatDoorWords
namespace Go.Proofs.YtefdoineacfbhaaGreatDoor
open Go.RowKit Go.Sort

/-- The world's old blocks outside S are as they were. -/
structure Chg (S : Nat → Prop) (w w' : World) : Prop where
  os : w'.os = w.os
  tape : w'.tape = w.tape
  output : w'.output = w.output
  size : w.heap.size ≤ w'.heap.size
  block : ∀ k, k < w.heap.size → ¬ S k → w'.heap[k]? = w.heap[k]?

section
variable {S T : Nat → Prop} {a b c : World}
theorem Chg.refl (S : Nat → Prop) (w : World) : Chg S w w := ⟨rfl, rfl, rfl, Nat.le_refl _, fun _ _ _ => rfl⟩
theorem Chg.trans (h : Chg S a b) (k : Chg S b c) : Chg S a c :=
  ⟨k.os.trans h.os, k.tape.trans h.tape, k.output.trans h.output, Nat.le_trans h.size k.size, fun i hi hs => (k.block i (Nat.lt_of_lt_of_le hi h.size) hs).trans (h.block i hi hs)⟩
/-- The second piece may write more, so it be new. -/
theorem Chg.trans_new (h : Chg S a b) (k : Chg T b c) (hST : ∀ i, i < a.heap.size → T i → S i) : Chg S a c :=
  ⟨k.os.trans h.os, k.tape.trans h.tape, k.output.trans h.output, Nat.le_trans h.size k.size, fun i hi hs => (k.block i (Nat.lt_of_lt_of_le hi h.size) (fun t => hs (hST i hi t))).trans (h.block i hi hs)⟩
theorem Chg.mono (h : Chg S a b) (hS : ∀ k, k < a.heap.size → S k → T k) : Chg T a b := ⟨h.os, h.tape, h.output, h.size, fun k hk hs => h.block k hk (fun t => hs (hS k hk t))⟩
theorem Chg.drew (h : Chg S a b) : Chg S a b.drew := ⟨h.os, h.tape, h.output, h.size, h.block⟩
theorem Chg.drewN (h : Chg S a b) (n : Nat) : Chg S a (b.drewN n) := ⟨h.os, h.tape, h.output, h.size, h.block⟩
theorem Chg.alloc (h : Chg S a b) (o : Obj) : Chg S a (b.alloc o) :=
  h.trans ⟨rfl, rfl, rfl, by simp, fun k hk _ => Below.heap_alloc _ _ _ hk⟩
theorem Chg.setCell (h : Chg S a b) {p : Addr} (hp : a.heap.size ≤ p.block ∨ S p.block) (u : Value) : Chg S a (b.setCell p u) :=
  h.trans_new (T := fun k => k = p.block) ⟨rfl, rfl, rfl, by simp [World.setCell], fun k _ hk => Below.heap_setCell _ _ _ _ hk⟩ (fun i hi e => by
    subst e
    rcases hp with hp | hp
    · omega
    · exact hp)
theorem Chg.of_below (h : RowKit.Below a.heap.size a b) : Chg S a b := ⟨h.os, h.tape, h.output, h.size, fun k hk _ => h.block k hk⟩
theorem Chg.of_grown {row : Option Nat} (h : a.grownBy b row) (hr : ∀ k, row = some k → k < a.heap.size → S k) : Chg S a b :=
  ⟨h.os, h.tape, h.output, h.size, fun k hk hs => h.block k hk (fun e => hs (hr k e.symm hk))⟩
theorem Chg.below {B : Nat} (h : Chg S a b) (hB : B ≤ a.heap.size) (hS : ∀ k, k < B → ¬ S k) : RowKit.Below B a b := ⟨h.os, h.tape, h.output, h.size, fun k hk => h.block k (by omega) (hS k hk)⟩
theorem Chg.then_below {B : Nat} (h : Chg S a b) (hb : RowKit.Below B b c) (hB : ∀ k, k < a.heap.size → B ≤ k → S k) : Chg S a c :=
  h.trans_new (T := fun k => B ≤ k) ⟨hb.os, hb.tape, hb.output, hb.size, fun k _ hs => hb.block k (by omega)⟩ hB
theorem Chg.cell (h : Chg S a b) {g o : Nat} (hg : g < a.heap.size) (hs : ¬ S g) : b.cell? ⟨g, o, none⟩ = a.cell? ⟨g, o, none⟩ := World.cell?_of_block (a := ⟨g, o, none⟩) (h.block g hg hs)
theorem Blk.chg {g : Nat} {t : TypeId} {cs : Array Value} (hk : Blk a g t cs) (h : Chg S a b) (hs : ¬ S g) : Blk b g t cs := (h.block g hk.lt hs).trans hk
theorem own_chg {base size n : Nat} {e : TypeId} {v : Value} {xs : List Value} (ho : a.ownsRow base e size v n xs) (h : Chg S a b) (hs : ∀ g, v.ownBlock = some g → ¬ S g) : b.ownsRow base e size v n xs := by
  obtain ⟨h1, h2 | ⟨g, cap, cur, e1, e2, e3, r⟩⟩ := ho
  · exact ⟨h1, .inl h2⟩
  · refine ⟨h1, .inr ⟨g, cap, cur, e1, e2, ?_, r⟩⟩
    subst e1
    have hg : g < a.heap.size := by
      rcases Nat.lt_or_ge g a.heap.size with hlt | hge
      · exact hlt
      · rw [Array.getElem?_eq_none hge] at e3; cases e3
    exact (h.block g hg (hs g rfl)).trans e3
theorem Reads.chg {B size n : Nat} {A : Option Addr} {xs : List Value} (hr : Reads a B size A n xs) (h : Chg S a b) (hB : B ≤ a.heap.size) (hs : ∀ k, k < B → ¬ S k) : Reads b B size A n xs :=
  hr.keep fun g o hg => h.cell (by omega) (hs g hg)
/-- Fewer of a row. -/
theorem own_shrink {base size n m : Nat} {e : TypeId} {g cap : Nat} {xs : List Value} (ho : a.ownsRow base e size (.slice (some ⟨g, 0, none⟩) n cap) n xs) (hm : m ≤ n) :
    a.ownsRow base e size (.slice (some ⟨g, 0, none⟩) m cap) m (xs.take (m * size)) := by
  obtain ⟨h1, h2 | ⟨g', cap', cur, e1, e2, e3, e4, e5, e6, e7⟩⟩ := ho
  · cases h2.1
  · cases e1
    have hle : m * size ≤ n * size := Nat.mul_le_mul_right _ hm
    refine ⟨by rw [List.length_take, h1]; exact Nat.min_eq_left hle, .inr ⟨g, cap, cur, rfl, e2, e3, by omega, e5, e6, ?_⟩⟩
    rw [← e7, List.take_take, Nat.min_eq_left hle]
end
end Go.Proofs.YtefdoineacfbhaaGreatDoor
