/- What gather.begun makes. -/
import Derived.Test.YtefdoineacfbhaaGreatDoorKeyLaw
namespace Go.Proofs.YtefdoineacfbhaaGreatDoor
open Go Go.Proofs Go.Shelf Go.RowKit Go.Lib Go.Sort

/-- The operations; quantile with its parameter. -/
inductive Agg where
  | sum | avg | stdvar | stddev | quantile (q : Nat) | count | group | min | max | topk | bottomk | values
inductive Kd where
  | listed | counted | outer | none
def kd : Agg → Kd
  | .sum | .avg | .stdvar | .stddev | .quantile _ => .listed
  | .count | .group | .values => .counted
  | .min | .max => .outer
  | .topk | .bottomk => .none
def opB : Agg → ByteArray
  | .sum => ⟨#[115, 117, 109]⟩
  | .avg => ⟨#[97, 118, 103]⟩
  | .stdvar => ⟨#[115, 116, 100, 118, 97, 114]⟩
  | .stddev => ⟨#[115, 116, 100, 100, 101, 118]⟩
  | .quantile _ => ⟨#[113, 117, 97, 110, 116, 105, 108, 101]⟩
  | .count => ⟨#[99, 111, 117, 110, 116]⟩
  | .values => ⟨#[99, 111, 117, 110, 116, 95, 118, 97, 108, 117, 101, 115]⟩
  | .group => ⟨#[103, 114, 111, 117, 112]⟩
  | .min => ⟨#[109, 105, 110]⟩
  | .max => ⟨#[109, 97, 120]⟩
  | .topk => ⟨#[116, 111, 112, 107]⟩
  | .bottomk => ⟨#[98, 111, 116, 116, 111, 109, 107]⟩

def sumT (op : Agg) : TypeId := match kd op with
  | .listed => 100
  | .counted => 103
  | .outer => 106
  | .none => 27
/-- What sums a list up. -/
def fnV (op : Agg) (gb : Nat) : Value := match op with
  | .avg => .func (.func 60) #[] #[]
  | .stdvar => .func (.func 61) #[] #[]
  | .stddev => .func (.func 62) #[] #[]
  | .quantile _ => .func (.func 63) #[] #[.pointer (some ⟨gb, 0, none⟩)]
  | _ => .func (.func 59) #[] #[]
/-- The block that quantile's closure holds. -/
def ParAt (w : World) (B : Nat) (op : Agg) (gb : Nat) : Prop := match op with
  | .quantile q => B ≤ gb ∧ ∃ cs, Blk w gb 27 cs ∧ cs[3]? = some (.float .f64 q)
  | _ => True
def isOne : Agg → Bool
  | .group => true
  | _ => false
def isMax : Agg → Bool
  | .max => true
  | _ => false
/-- A new summary's value, its block. -/
def SumIs (w : World) (B : Nat) (op : Agg) (sv : Value) (sb : Nat) : Prop :=
  match kd op with
  | .listed => sv = .iface 98 (.pointer (some ⟨sb, 0, none⟩)) ∧ B ≤ sb ∧ ∃ gb, Blk w sb 100 #[.slice none 0 0, fnV op gb] ∧ ParAt w B op gb
  | .counted => sv = .iface 101 (.pointer (some ⟨sb, 0, none⟩)) ∧ B ≤ sb ∧ Blk w sb 103 #[.int .i64 0, .bool (isOne op)]
  | .outer => sv = .iface 104 (.pointer (some ⟨sb, 0, none⟩)) ∧ B ≤ sb ∧ Blk w sb 106 #[.bool false, .bool (isMax op), .float .f64 0]
  | .none => sv = .nilIface ∧ B ≤ sb ∧ ∃ cs, Blk w sb 27 cs

/-- A Gathering's cells. -/
def gathV (op : Agg) (wo : Bool) (labs : Value) (param : Nat) (text : ByteArray) : Array Value := #[.string (opB op), .bool wo, labs, .float .f64 param, .string text]

theorem Blk.new_at (w : World) (t : TypeId) (cs : Array Value) (g : Nat) (h : g = w.heap.size) : Blk (w.alloc (.cells cs t)) g t cs := by subst h; exact Blk.new w t cs

def BegunRes (op : Agg) (w : World) (e : Ending) (w' : World) : Prop := ∃ sv sb, e = .returned sv ∧ SumIs w' w.heap.size op sv sb ∧ sb < w'.heap.size ∧ RowKit.Below w.heap.size w w'

set_option maxHeartbeats 4000000 in
theorem begun_any (op : Agg) (wo : Bool) (A : Option Addr) (n c : Nat) (param : Nat) (text : ByteArray) (w : World) (hq : ∀ q, op = .quantile q → param = q) :
    Calls Tryz.prog 31 #[.agg (gathV op wo (.slice A n c) param text)] w (BegunRes op w) := by
  unfold gathV
  have two : ∀ (x y : Obj), RowKit.Below w.heap.size w ((w.alloc x).alloc y) := fun x y => ((Below.refl _ _).alloc (Nat.le_refl _) _).alloc (by simp) _
  have TWO := Lib.hid two
  clear two
  cases op
  case quantile q =>
    obtain rfl : param = q := hq q rfl
    clear hq
    unfold opB
    go_enter Tryz.func31, Tryz.ntmps31
    go_wp2
    go_ret
    exact ⟨_, w.heap.size + 1, rfl, ⟨rfl, by omega, w.heap.size, Blk.new_at _ _ _ _ (by simp), Nat.le_refl _, _, (Blk.new _ _ _).alloc _, rfl⟩, by simp, TWO.out _ _⟩
  all_goals
    clear hq
    unfold opB
    go_enter Tryz.func31, Tryz.ntmps31
    go_wp2
    try go_ret
  · exact ⟨_, w.heap.size + 1, rfl, ⟨rfl, by omega, 0, Blk.new_at _ _ _ _ (by simp), trivial⟩, by simp, TWO.out _ _⟩
  · exact ⟨_, w.heap.size + 1, rfl, ⟨rfl, by omega, 0, Blk.new_at _ _ _ _ (by simp), trivial⟩, by simp, TWO.out _ _⟩
  · exact ⟨_, w.heap.size + 1, rfl, ⟨rfl, by omega, 0, Blk.new_at _ _ _ _ (by simp), trivial⟩, by simp, TWO.out _ _⟩
  · exact ⟨_, w.heap.size + 1, rfl, ⟨rfl, by omega, 0, Blk.new_at _ _ _ _ (by simp), trivial⟩, by simp, TWO.out _ _⟩
  · exact ⟨_, w.heap.size + 1, rfl, ⟨rfl, by omega, Blk.new_at _ _ _ _ (by simp)⟩, by simp, TWO.out _ _⟩
  · exact ⟨_, w.heap.size + 1, rfl, ⟨rfl, by omega, Blk.new_at _ _ _ _ (by simp)⟩, by simp, TWO.out _ _⟩
  · exact ⟨_, w.heap.size + 1, rfl, ⟨rfl, by omega, Blk.new_at _ _ _ _ (by simp)⟩, by simp, TWO.out _ _⟩
  · exact ⟨_, w.heap.size + 1, rfl, ⟨rfl, by omega, Blk.new_at _ _ _ _ (by simp)⟩, by simp, TWO.out _ _⟩
  · exact ⟨_, w.heap.size, rfl, ⟨rfl, Nat.le_refl _, _, Blk.new _ _ _⟩, by simp, (Below.refl _ _).alloc (Nat.le_refl _) _⟩
  · exact ⟨_, w.heap.size, rfl, ⟨rfl, Nat.le_refl _, _, Blk.new _ _ _⟩, by simp, (Below.refl _ _).alloc (Nat.le_refl _) _⟩
  · exact ⟨_, w.heap.size + 1, rfl, ⟨rfl, by omega, Blk.new_at _ _ _ _ (by simp)⟩, by simp, TWO.out _ _⟩

/-- No operation: nil. -/
theorem begun_none (ob : ByteArray) (ho : ∀ op, ob ≠ opB op) (wo : Bool) (A : Option Addr) (n c : Nat) (param : Nat) (text : ByteArray) (w : World) :
    Calls Tryz.prog 31 #[.agg #[.string ob, .bool wo, .slice A n c, .float .f64 param, .string text]] w fun e w' => e = .returned .nilIface ∧ RowKit.Below w.heap.size w w' := by
  have key : ∀ op, (ob.toList == (opB op).toList) = false := fun op => by rw [toList_beq]; exact decide_eq_false (ho op)
  have h0 : (ob.toList == [115, 117, 109]) = false := by
    have := key .sum
    rwa [show (opB .sum).toList = [115, 117, 109] from by rw [ByteArray.toList_eq]; rfl] at this
  have h1 : (ob.toList == [97, 118, 103]) = false := by
    have := key .avg
    rwa [show (opB .avg).toList = [97, 118, 103] from by rw [ByteArray.toList_eq]; rfl] at this
  have h2 : (ob.toList == [115, 116, 100, 118, 97, 114]) = false := by
    have := key .stdvar
    rwa [show (opB .stdvar).toList = [115, 116, 100, 118, 97, 114] from by rw [ByteArray.toList_eq]; rfl] at this
  have h3 : (ob.toList == [115, 116, 100, 100, 101, 118]) = false := by
    have := key .stddev
    rwa [show (opB .stddev).toList = [115, 116, 100, 100, 101, 118] from by rw [ByteArray.toList_eq]; rfl] at this
  have h4 : (ob.toList == [113, 117, 97, 110, 116, 105, 108, 101]) = false := by
    have := key (.quantile 0)
    rwa [show (opB (.quantile 0)).toList = [113, 117, 97, 110, 116, 105, 108, 101] from by rw [ByteArray.toList_eq]; rfl] at this
  have h5 : (ob.toList == [99, 111, 117, 110, 116]) = false := by
    have := key .count
    rwa [show (opB .count).toList = [99, 111, 117, 110, 116] from by rw [ByteArray.toList_eq]; rfl] at this
  have h6 : (ob.toList == [99, 111, 117, 110, 116, 95, 118, 97, 108, 117, 101, 115]) = false := by
    have := key .values
    rwa [show (opB .values).toList = [99, 111, 117, 110, 116, 95, 118, 97, 108, 117, 101, 115] from by rw [ByteArray.toList_eq]; rfl] at this
  have h7 : (ob.toList == [103, 114, 111, 117, 112]) = false := by
    have := key .group
    rwa [show (opB .group).toList = [103, 114, 111, 117, 112] from by rw [ByteArray.toList_eq]; rfl] at this
  have h8 : (ob.toList == [109, 105, 110]) = false := by
    have := key .min
    rwa [show (opB .min).toList = [109, 105, 110] from by rw [ByteArray.toList_eq]; rfl] at this
  have h9 : (ob.toList == [109, 97, 120]) = false := by
    have := key .max
    rwa [show (opB .max).toList = [109, 97, 120] from by rw [ByteArray.toList_eq]; rfl] at this
  clear key ho
  go_enter Tryz.func31, Tryz.ntmps31
  go_wp2
  go_ret
  exact ⟨rfl, (Below.refl _ _).alloc (Nat.le_refl _) _⟩
end Go.Proofs.YtefdoineacfbhaaGreatDoor
