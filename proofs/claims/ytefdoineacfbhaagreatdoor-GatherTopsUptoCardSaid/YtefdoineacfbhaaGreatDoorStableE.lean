/- slices.SortStableFunc's family at weir/api.Elem, over an open program P that bears these bodies: what it does to the row. -/
import Derived.Test.YtefdoineacfbhaaGreatDoorSortPlain
import Derived.Test.YtefdoineacfbhaaGreatDoorWords
import Derived.Test.YtefdoineacfbhaaGreatDoorChecked
import Derived.Shelf.SlSortCmp.PdqK
import Derived.Shelf.SlGeneric
import Derived.WalkKit
namespace Go.Proofs.YtefdoineacfbhaaGreatDoor.StE
open Go Go.Proofs Go.Shelf Go.RowKit Go.Lib Go.Sort
/-- The numbering by which the kit's insertion sort is laid at this instance. -/
def insRen : Go.Shelf.Ren := ⟨fun | 20 => 116 | n => n, fun | 24 => 43 | 22 => 28 | 3 => 3 | 25 => 86 | 4 => 4 | 0 => 0 | n => n, fun | n => n⟩

/-- What the walks ask of the program. -/
structure StP (P : Program) : Prop where
  mixed : P.follows .mixedOrders = true
  fins : P.funcs[116]? = some Tryz.f116
  fstb : P.funcs[74]? = some Tryz.f74
  fsym : P.funcs[117]? = some Tryz.f117
  frot : P.funcs[142]? = some Tryz.f142
  fswp : P.funcs[158]? = some Tryz.f158
  fsrt : P.funcs[38]? = some Tryz.f38
  t0 : P.underlying 0 = some (TypeDesc.tuple #[])
  a0 : ∀ w, (isAgg 0).run P w = .ok false w
  z0 : ∀ w, (Go.sizeOf 0).run P w = .ok 1 w
  v0 : ∀ w, (zeroValue 0).run P w = .ok (Value.tuple #[]) w
  t1 : P.underlying 3 = some (TypeDesc.int IntKind.i64)
  a1 : ∀ w, (isAgg 3).run P w = .ok false w
  z1 : ∀ w, (Go.sizeOf 3).run P w = .ok 1 w
  v1 : ∀ w, (zeroValue 3).run P w = .ok (Value.int IntKind.i64 0) w
  t2 : P.underlying 4 = some (TypeDesc.bool)
  a2 : ∀ w, (isAgg 4).run P w = .ok false w
  z2 : ∀ w, (Go.sizeOf 4).run P w = .ok 1 w
  v2 : ∀ w, (zeroValue 4).run P w = .ok (Value.bool false) w
  t3 : P.underlying 28 = some (TypeDesc.slice 43)
  a3 : ∀ w, (isAgg 28).run P w = .ok false w
  z3 : ∀ w, (Go.sizeOf 28).run P w = .ok 1 w
  v3 : ∀ w, (zeroValue 28).run P w = .ok (Value.slice none 0 0) w
  t4 : P.underlying 86 = some (TypeDesc.func #[43, 43] #[3] false)
  a4 : ∀ w, (isAgg 86).run P w = .ok false w
  z4 : ∀ w, (Go.sizeOf 86).run P w = .ok 1 w
  v4 : ∀ w, (zeroValue 86).run P w = .ok (Value.nilFunc) w
  t5 : P.underlying 113 = some (TypeDesc.int IntKind.u64)
  a5 : ∀ w, (isAgg 113).run P w = .ok false w
  z5 : ∀ w, (Go.sizeOf 113).run P w = .ok 1 w
  v5 : ∀ w, (zeroValue 113).run P w = .ok (Value.int IntKind.u64 0) w
  ins : Go.Proofs.SlLaysF0.n20 P insRen

theorem insLaid : Go.Proofs.SlLaysF0.n20 Tryz.prog insRen := {
  mixed := by kernel_rfl
  f20 := ⟨Tryz.f116.name, by decide, Tryz.func116.trans (congrArg some (by kernel_rfl))⟩
  t0 := Tryz.underlying0
  a0 := Tryz.isAgg0
  z0 := Tryz.sizeOf0
  v0 := Tryz.zeroValue0
  t3 := Tryz.underlying3
  a3 := Tryz.isAgg3
  z3 := Tryz.sizeOf3
  v3 := Tryz.zeroValue3
  t4 := Tryz.underlying4
  a4 := Tryz.isAgg4
  z4 := Tryz.sizeOf4
  v4 := Tryz.zeroValue4
  t22 := Tryz.underlying28
  a22 := Tryz.isAgg28
  z22 := Tryz.sizeOf28
  v22 := Tryz.zeroValue28
  t25 := Tryz.underlying86
  a25 := Tryz.isAgg86
  z25 := Tryz.sizeOf86
  v25 := Tryz.zeroValue86 }

theorem stP : StP Tryz.prog := {
  mixed := by kernel_rfl
  fins := Tryz.func116
  fstb := Tryz.func74
  fsym := Tryz.func117
  frot := Tryz.func142
  fswp := Tryz.func158
  fsrt := Tryz.func38
  t0 := Tryz.underlying0
  a0 := Tryz.isAgg0
  z0 := Tryz.sizeOf0
  v0 := Tryz.zeroValue0
  t1 := Tryz.underlying3
  a1 := Tryz.isAgg3
  z1 := Tryz.sizeOf3
  v1 := Tryz.zeroValue3
  t2 := Tryz.underlying4
  a2 := Tryz.isAgg4
  z2 := Tryz.sizeOf4
  v2 := Tryz.zeroValue4
  t3 := Tryz.underlying28
  a3 := Tryz.isAgg28
  z3 := Tryz.sizeOf28
  v3 := Tryz.zeroValue28
  t4 := Tryz.underlying86
  a4 := Tryz.isAgg86
  z4 := Tryz.sizeOf86
  v4 := Tryz.zeroValue86
  t5 := Tryz.underlying113
  a5 := Tryz.isAgg113
  z5 := Tryz.sizeOf113
  v5 := Tryz.zeroValue113
  ins := insLaid }

variable {P : Program} {α : Type} [Inhabited α]

set_option maxHeartbeats 4000000 in
set_option maxRecDepth 1000000 in
/-- swapRange: two blocks of n elements are exchanged. -/
theorem swapRange (L : StP P) (k : Nat) (aE : ∀ w, (isAgg 43).run P w = .ok true w) (zE : ∀ w, (Go.sizeOf 43).run P w = .ok k w) (enc : α → List Value) (g : Nat) (cb : Array Value) (blk off cap N : Nat) (d0 : Array α) (w0 : World) (R : RowK enc k w0 blk off d0) (a b n : Nat) (d : Array α) (w : World) (hs : d0.size = N) (hN : d.size = N) (hS : SWK enc k w0 blk off d w) (hab : a + n ≤ b) (hb : b + n ≤ N) (hsz : N < 4611686018427387904)
    (X U M V Y : List α) (hX : X.length = a) (hU : U.length = n) (hM : a + n + M.length = b) (hV : V.length = n) (hd : d.toList = X ++ U ++ M ++ V ++ Y) :
    Calls P 158 #[.slice (some ⟨blk, off, none⟩) N cap, .int .i64 a, .int .i64 b, .int .i64 n, .func (.func g) #[] cb] w fun e w' => e = .returned (.tuple #[]) ∧ ∃ d', d'.size = N ∧ SWK enc k w0 blk off d' w' ∧ d'.toList = X ++ V ++ M ++ U ++ Y := by
  have mixed := L.mixed; have t0 := L.t0; have a0 := L.a0; have z0 := L.z0; have v0 := L.v0; have t1 := L.t1; have a1 := L.a1; have z1 := L.z1; have v1 := L.v1; have t2 := L.t2; have a2 := L.a2; have z2 := L.z2; have v2 := L.v2; have t3 := L.t3; have a3 := L.a3; have z3 := L.z3; have v3 := L.v3; have t4 := L.t4; have a4 := L.a4; have z4 := L.z4; have v4 := L.v4; have t5 := L.t5; have a5 := L.a5; have z5 := L.z5; have v5 := L.v5
  have S0 : Aside (SWK enc k w0 blk off d w) := hS
  have HD : Hid (d.toList = X ++ U ++ M ++ V ++ Y) := hd
  have HM := Lib.hid hM
  have HX := Lib.hid hX
  have HU := Lib.hid hU
  have HV := Lib.hid hV
  clear hS hd hM hX hU hV
  go_enter L.fswp, Tryz.ntmps158
  go_wp2_with fail
  go_loopw [10] (fun vi wr => ∃ (i : Nat) (dk : Array α), vi = .int .i64 i ∧ i ≤ n ∧ dk.size = N ∧ Aside (SWK enc k w0 blk off dk wr) ∧ Hid (dk.toList = X ++ (V.take i ++ U.drop i) ++ M ++ (U.take i ++ V.drop i) ++ Y)) (fun vi _ => n - (intOf vi).toNat)
  case atStart => exact ⟨0, d, by go_num, by omega, hN, S0, by show _ = _; rw [HD.out]; simp⟩
  case round =>
    clear S0
    obtain ⟨i, dk, rfl, hin, hds, S1, HL⟩ := hrel
    by_cases hlt : i < n
    · have hltz : (i : Int) < (n : Int) := by omega
      have ea1 : ((a : Int) + (i : Int)).toNat = a + i := by omega
      have pa1 : (0 : Int) ≤ (a : Int) + (i : Int) := by omega
      have ba1 : (a : Int) + (i : Int) < (N : Int) := by omega
      have ra1 : IntKind.i64.wrap ((a : Int) + (i : Int)) = (a : Int) + (i : Int) := by rw [IntKind.wrap_i64]; omega
      skip
      have eb1 : ((b : Int) + (i : Int)).toNat = b + i := by omega
      have pb1 : (0 : Int) ≤ (b : Int) + (i : Int) := by omega
      have bb1 : (b : Int) + (i : Int) < (N : Int) := by omega
      have rb1 : IntKind.i64.wrap ((b : Int) + (i : Int)) = (b : Int) + (i : Int) := by rw [IntKind.wrap_i64]; omega
      skip
      have S2 : Aside (SWK enc k w0 blk off (swp dk (a + i) (b + i)) ((wr.drew.setCells blk (off + (a + i) * k) (enc dk[b + i]!)).setCells blk (off + (b + i) * k) (enc dk[a + i]!))) := S1.out.swapped R (a + i) (b + i) (by omega) (by omega)
      have l1a := S1.out.ld1 R (by omega) P (a + i) (by omega)
      have l1b := S1.out.ld1 R (by omega) P (b + i) (by omega)
      have s1a := S1.out.st1 R (by omega) P (a + i) (by omega) dk[b + i]!
      have s1b := S1.out.st2 R (by omega) P (a + i) (b + i) (by omega) (by omega) dk[b + i]! dk[a + i]!
      have n1a : (enc dk[a + i]!).length = k := R.hk _
      have n1b : (enc dk[b + i]!).length = k := R.hk _
      generalize enc dk[a + i]! = cI1 at S2 l1a s1b n1a
      generalize enc dk[b + i]! = cJ1 at S2 l1b s1a s1b n1b
      clear S1
      go_wp2_with fail
      go_big_region_o
      clear l1a l1b s1a s1b
      generalize (wr.drew.setCells blk (off + (a + i) * k) cJ1).setCells blk (off + (b + i) * k) cI1 = w2 at S2 ⊢
      go_wp2
      go_roundw
      case rel =>
        refine ⟨i + 1, swp dk (a + i) (b + i), by go_num, by omega, by rw [size_swp]; exact hds, S2, ?_⟩
        exact swapRange_step dk X U M V Y i (a + i) (b + i) (by rw [HU.out]; omega) (by rw [HV.out]; omega) (by rw [HX.out]) (by rw [HX.out, HU.out]; have := HM.out; omega) HL.out
      case measure => simp [intOf]; omega
    · have hltz : ¬ (i : Int) < (n : Int) := by omega
      have HIN : Hid (i = n) := by show _ = _; omega
      go_wp2
      go_end0
      refine ⟨rfl, dk, hds, S1.out, ?_⟩
      rw [HL.out, HIN.out, List.take_of_length_le (by rw [HV.out]; omega), List.drop_eq_nil_of_le (by rw [HU.out]; omega), List.take_of_length_le (by rw [HU.out]; omega), List.drop_eq_nil_of_le (by rw [HV.out]; omega)]
      simp

theorem swapRangeZ (L : StP P) (k : Nat) (aE : ∀ w, (isAgg 43).run P w = .ok true w) (zE : ∀ w, (Go.sizeOf 43).run P w = .ok k w) (enc : α → List Value) (g : Nat) (cb : Array Value) (blk off cap N : Nat) (d0 : Array α) (w0 : World) (R : RowK enc k w0 blk off d0) (a b n : Nat) (za zb zn : Int) (hza : za = a) (hzb : zb = b) (hzn : zn = n) (d : Array α) (w : World) (hs : d0.size = N) (hN : d.size = N) (hS : SWK enc k w0 blk off d w) (hab : a + n ≤ b) (hb : b + n ≤ N) (hsz : N < 4611686018427387904)
    (X U M V Y : List α) (hX : X.length = a) (hU : U.length = n) (hM : a + n + M.length = b) (hV : V.length = n) (hd : d.toList = X ++ U ++ M ++ V ++ Y) :
    Calls P 158 #[.slice (some ⟨blk, off, none⟩) N cap, .int .i64 za, .int .i64 zb, .int .i64 zn, .func (.func g) #[] cb] w fun e w' => e = .returned (.tuple #[]) ∧ ∃ d', d'.size = N ∧ SWK enc k w0 blk off d' w' ∧ d'.toList = X ++ V ++ M ++ U ++ Y := by
  subst hza hzb hzn
  exact swapRange L k aE zE enc g cb blk off cap N d0 w0 R a b n d w hs hN hS hab hb hsz X U M V Y hX hU hM hV hd

set_option maxHeartbeats 4000000 in
set_option maxRecDepth 1000000 in
/-- rotate: two neighbouring blocks are exchanged. -/
theorem rotate (L : StP P) (k : Nat) (aE : ∀ w, (isAgg 43).run P w = .ok true w) (zE : ∀ w, (Go.sizeOf 43).run P w = .ok k w) (enc : α → List Value) (g : Nat) (cb : Array Value) (blk off cap N : Nat) (d0 : Array α) (w0 : World) (R : RowK enc k w0 blk off d0) (a m b : Nat) (d : Array α) (w : World) (hs : d0.size = N) (hN : d.size = N) (hS : SWK enc k w0 blk off d w) (ham : a < m) (hmb : m < b) (hb : b ≤ N) (hsz : N < 4611686018427387904)
    (X U V Y : List α) (hX : X.length = a) (hU : a + U.length = m) (hV : m + V.length = b) (hd : d.toList = X ++ U ++ V ++ Y) :
    Calls P 142 #[.slice (some ⟨blk, off, none⟩) N cap, .int .i64 a, .int .i64 m, .int .i64 b, .func (.func g) #[] cb] w fun e w' => e = .returned (.tuple #[]) ∧ ∃ d', d'.size = N ∧ SWK enc k w0 blk off d' w' ∧ d'.toList = X ++ V ++ U ++ Y := by
  have mixed := L.mixed; have t0 := L.t0; have a0 := L.a0; have z0 := L.z0; have v0 := L.v0; have t1 := L.t1; have a1 := L.a1; have z1 := L.z1; have v1 := L.v1; have t2 := L.t2; have a2 := L.a2; have z2 := L.z2; have v2 := L.v2; have t3 := L.t3; have a3 := L.a3; have z3 := L.z3; have v3 := L.v3; have t4 := L.t4; have a4 := L.a4; have z4 := L.z4; have v4 := L.v4; have t5 := L.t5; have a5 := L.a5; have z5 := L.z5; have v5 := L.v5
  have eswp : ∀ args w, (callFunc 158 args).run P w = .ok (.enter 158 args) w := enters_of L.fswp (by kernel_rfl) rfl
  have S0 : Aside (SWK enc k w0 blk off d w) := hS
  have HD : Hid (d.toList = X ++ U ++ V ++ Y) := hd
  have hlen : X.length + U.length + V.length + Y.length = N := by have := congrArg List.length hd; simp at this; omega
  have HLEN := Lib.hid hlen
  have HX := Lib.hid hX
  have HU := Lib.hid hU
  have HV := Lib.hid hV
  clear hS hd hX hU hV hlen
  go_enter L.frot, Tryz.ntmps142
  go_wp2_with fail
  go_loopw [10, 11] (fun vi vj wr => ∃ (i j : Nat) (dk : Array α) (Q u v T : List α), vi = .int .i64 i ∧ vj = .int .i64 j ∧ 0 < i ∧ 0 < j ∧ i + a ≤ m ∧ m + j ≤ b ∧ dk.size = N ∧ Aside (SWK enc k w0 blk off dk wr) ∧
      Hid (u.length = i ∧ v.length = j ∧ Q.length + i = m ∧ dk.toList = Q ++ u ++ v ++ T ∧ Q ++ v ++ u ++ T = X ++ V ++ U ++ Y)) (fun vi vj _ => (intOf vi).toNat + (intOf vj).toNat)
  case atStart => exact ⟨m - a, b - m, d, X, U, V, Y, congrArg (Value.int .i64) (by omega), congrArg (Value.int .i64) (by omega), by omega, by omega, by omega, by omega, hN, S0,
    by have := HU.out; omega, by have := HV.out; omega, by have := HX.out; omega, HD.out, rfl⟩
  case round =>
    clear S0
    obtain ⟨i, j, dk, Q, u, v, T, rfl, rfl, hi0, hj0, hia, hjb, hds, S1, HL⟩ := hrel
    by_cases hij : i = j
    · have hne : ((i : Int) != (j : Int)) = false := by rw [hij]; simp
      have HIJ : Hid (i = j) := hij
      have hij2 : i ≤ j ∧ j ≤ i := by omega
      clear hij
      have h3 : Q.length = m - i := by have := HL.out.2.2.1; omega
      have hu := HL.out.1
      have hv := HL.out.2.1.trans HIJ.out.symm
      have hM : m - i + i + ([] : List α).length = m := by simp; omega
      have hdl : dk.toList = Q ++ u ++ [] ++ v ++ T := by rw [HL.out.2.2.2.1]; simp
      have hcon := fun W (hW : SWK enc k w0 blk off dk W) => swapRangeZ L k aE zE enc g cb blk off cap N d0 w0 R (m - i) m i ((m : Int) - i) m i (by omega) rfl rfl dk W hs hds hW (by omega) (by omega) (by omega) Q u [] v T h3 hu hM hv hdl
      have HC := Lib.hid (hcon _ S1.out)
      clear hcon h3 hu hv hM hdl
      go_wp2_with fail
      refine HC.out.mono ?_
      rintro e w2 ⟨rfl, d2, hd2, hS2, hl2⟩
      have HL2 := Lib.hid hl2
      have HS2 := Lib.hid hS2
      clear hl2 hS2 HC
      go_wp2
      go_end0
      refine ⟨rfl, d2, hd2, HS2.out, ?_⟩
      rw [HL2.out, ← HL.out.2.2.2.2]
      simp
    · have hne : ((i : Int) != (j : Int)) = true := by rw [bne_iff_ne]; omega
      by_cases hji : j < i
      · have hu := HL.out.1
        have hv := HL.out.2.1
        have h3 : Q.length = m - i := by have := HL.out.2.2.1; omega
        have hu1 : (u.take j).length = j := by simp; omega
        have hM : m - i + j + (u.drop j).length = m := by simp; omega
        have hdl : dk.toList = Q ++ u.take j ++ u.drop j ++ v ++ T := by rw [HL.out.2.2.2.1, show Q ++ u ++ v ++ T = Q ++ (u.take j ++ u.drop j) ++ v ++ T from by rw [List.take_append_drop]]; simp only [List.append_assoc]
        have hcon := fun W (hW : SWK enc k w0 blk off dk W) => swapRangeZ L k aE zE enc g cb blk off cap N d0 w0 R (m - i) m j ((m : Int) - i) m j (by omega) rfl rfl dk W hs hds hW (by omega) (by omega) (by omega) Q (u.take j) (u.drop j) v T h3 hu1 hM hv hdl
        have HC := Lib.hid (hcon _ S1.out)
        have HF : Hid ((u.drop j).length = i - j ∧ (u.take j).length = j ∧ (Q ++ v).length + (i - j) = m ∧ (Q ++ v) ++ u.take j ++ u.drop j ++ T = X ++ V ++ U ++ Y) := by
          refine ⟨by simp; omega, hu1, by simp; omega, ?_⟩
          rw [← HL.out.2.2.2.2, List.append_assoc (Q ++ v), List.take_append_drop]
        clear hcon h3 hu hv hM hdl hu1
        go_wp2_with fail
        refine HC.out.mono ?_
        rintro e w2 ⟨rfl, d2, hd2, hS2, hl2⟩
        have HL2 := Lib.hid hl2
        have HS2 := Lib.hid hS2
        clear hl2 hS2 HC
        go_wp2
        go_roundw
        case rel => exact ⟨i - j, j, d2, Q ++ v, u.drop j, u.take j, T, congrArg (Value.int .i64) (by omega), rfl, by omega, by omega, by omega, by omega, hd2, HS2.out, HF.out.1, HF.out.2.1, HF.out.2.2.1, by rw [HL2.out], HF.out.2.2.2⟩
        case measure => simp [intOf]; omega
      · have hu := HL.out.1
        have hv := HL.out.2.1
        have h3 : Q.length = m - i := by have := HL.out.2.2.1; omega
        have hv2 : (v.drop (j - i)).length = i := by simp; omega
        have hM : m - i + i + (v.take (j - i)).length = m + j - i := by simp; omega
        have hdl : dk.toList = Q ++ u ++ v.take (j - i) ++ v.drop (j - i) ++ T := by rw [HL.out.2.2.2.1, show Q ++ u ++ v ++ T = Q ++ u ++ (v.take (j - i) ++ v.drop (j - i)) ++ T from by rw [List.take_append_drop]]; simp only [List.append_assoc]
        have hcon := fun W (hW : SWK enc k w0 blk off dk W) => swapRangeZ L k aE zE enc g cb blk off cap N d0 w0 R (m - i) (m + j - i) i ((m : Int) - i) ((m : Int) + j - i) i (by omega) (by omega) rfl dk W hs hds hW (by omega) (by omega) (by omega) Q u (v.take (j - i)) (v.drop (j - i)) T h3 hu hM hv2 hdl
        have HC := Lib.hid (hcon _ S1.out)
        have HF : Hid ((v.drop (j - i)).length = i ∧ (v.take (j - i)).length = j - i ∧ Q.length + i = m ∧ Q ++ v.take (j - i) ++ v.drop (j - i) ++ (u ++ T) = X ++ V ++ U ++ Y) := by
          refine ⟨hv2, by simp; omega, by omega, ?_⟩
          rw [← HL.out.2.2.2.2, List.append_assoc Q, List.take_append_drop]
          simp
        clear hcon h3 hu hv hM hdl hv2
        go_wp2_with fail
        refine HC.out.mono ?_
        rintro e w2 ⟨rfl, d2, hd2, hS2, hl2⟩
        have HL2 := Lib.hid hl2
        have HS2 := Lib.hid hS2
        clear hl2 hS2 HC
        go_wp2
        go_roundw
        case rel => exact ⟨i, j - i, d2, Q, v.drop (j - i), v.take (j - i), u ++ T, rfl, congrArg (Value.int .i64) (by omega), by omega, by omega, by omega, by omega, hd2, HS2.out, HF.out.1, HF.out.2.1, HF.out.2.2.1, by rw [HL2.out]; simp, HF.out.2.2.2⟩
        case measure => simp [intOf]; omega

set_option maxHeartbeats 8000000 in
set_option maxRecDepth 1000000 in
/-- symMerge where the first run is one element: it is run into the second one. -/
theorem symMerge_left (L : StP P) (k : Nat) (aE : ∀ w, (isAgg 43).run P w = .ok true w) (zE : ∀ w, (Go.sizeOf 43).run P w = .ok k w) (enc : α → List Value) (g : Nat) (cb : Array Value) (blk off cap N : Nat) (d0 : Array α) (w0 : World) (R : RowK enc k w0 blk off d0) (cf : α → α → Int) (hO : SWO (ltOf cf)) (eg : ∀ args w, (callFunc g args).run P w = .ok (.enter g args) w) (hcmp : CmpLays P g cb enc k cf blk off d0.size w0)
    (a m b : Nat) (d : Array α) (w : World) (hs : d0.size = N) (hN : d.size = N) (hS : SWK enc k w0 blk off d w) (ham : a + 1 = m) (hmb : m < b) (hb : b ≤ N) (hsz : N < 4611686018427387904)
    (X Y B : List α) (x : α) (hX : X.length = a) (hB : m + B.length = b) (hd : d.toList = X ++ [x] ++ B ++ Y) (hsrt : Srt (ltOf cf) B) :
    Calls P 117 #[.slice (some ⟨blk, off, none⟩) N cap, .int .i64 a, .int .i64 m, .int .i64 b, .func (.func g) #[] cb] w fun e w' => e = .returned (.tuple #[]) ∧ ∃ d', d'.size = N ∧ SWK enc k w0 blk off d' w' ∧ d'.toList = X ++ mrg (ltOf cf) [x] B ++ Y := by
  have mixed := L.mixed; have t0 := L.t0; have a0 := L.a0; have z0 := L.z0; have v0 := L.v0; have t1 := L.t1; have a1 := L.a1; have z1 := L.z1; have v1 := L.v1; have t2 := L.t2; have a2 := L.a2; have z2 := L.z2; have v2 := L.v2; have t3 := L.t3; have a3 := L.a3; have z3 := L.z3; have v3 := L.v3; have t4 := L.t4; have a4 := L.a4; have z4 := L.z4; have v4 := L.v4; have t5 := L.t5; have a5 := L.a5; have z5 := L.z5; have v5 := L.v5
  have S0 : Aside (SWK enc k w0 blk off d w) := hS
  have HC : Aside _ := hcmp
  have HD : Hid (d.toList = X ++ [x] ++ B ++ Y) := hd
  have HX := Lib.hid hX
  have HB := Lib.hid hB
  have HSRT := Lib.hid hsrt
  have HO := Lib.hid hO
  clear hS hcmp hd hX hB hsrt hO
  have h1 : ((m : Int) - (a : Int) == 1) = true := by rw [beq_iff_eq]; omega
  go_enter L.fsym, Tryz.ntmps117
  go_wp2_with fail
  have MONO : Hid (∀ c' c, m ≤ c' → c' ≤ c → c < b → ltOf cf d[c]! d[a]! = true → ltOf cf d[c']! d[a]! = true) := mono_left HO.out d X Y B x a m b HX.out ham HB.out HD.out HSRT.out
  go_loopw [10, 11] (fun vi vj wr => ∃ (i j : Nat), vi = .int .i64 i ∧ vj = .int .i64 j ∧ m ≤ i ∧ i ≤ j ∧ j ≤ b ∧ Aside (SWK enc k w0 blk off d wr) ∧
      Hid (∀ c, m ≤ c → c < i → (ltOf cf d[c]! d[a]!) = true) ∧ Hid (∀ c, j ≤ c → c < b → (ltOf cf d[c]! d[a]!) = false)) (fun vi vj _ => (intOf vj).toNat - (intOf vi).toNat)
  case atStart => exact ⟨m, b, rfl, rfl, by omega, by omega, by omega, S0, fun c h1 h2 => by omega, fun c h1 h2 => by omega⟩
  case round =>
    clear S0
    obtain ⟨i, j, rfl, rfl, hli, hij, hjh, S1, HI, HJ⟩ := hrel
    by_cases hlt : i < j
    · have hltz : (i : Int) < (j : Int) := by omega
      obtain ⟨h, hh1, hh2, hh⟩ : ∃ h : Nat, i ≤ h ∧ h < j ∧ h = (i + j) / 2 := ⟨(i + j) / 2, by omega, by omega, rfl⟩
      have ez : ((i : Int) + (j : Int)) / 2 = (h : Int) := by omega
      clear hh
      cases hlv : ltOf cf d[h]! d[a]! with
      | true =>
        have HT : Hid ((ltOf cf d[h]! d[a]!) = true) := by show _ = _; rw [hlv]
        have e10p : ((h : Int)).toNat = h := by omega
        have p10p : (0 : Int) ≤ (h : Int) := by omega
        have b10p : (h : Int) < (N : Int) := by omega
        have r10p : IntKind.i64.wrap ((h : Int)) = (h : Int) := by rw [IntKind.wrap_i64]; omega
        skip
        have e10q : ((a : Int)).toNat = a := by omega
        have p10q : (0 : Int) ≤ (a : Int) := by omega
        have b10q : (a : Int) < (N : Int) := by omega
        have r10q : IntKind.i64.wrap ((a : Int)) = (a : Int) := by rw [IntKind.wrap_i64]; omega
        skip
        obtain ⟨x10, hx10⟩ : ∃ x, x = d[h]! := ⟨_, rfl⟩
        obtain ⟨y10, hy10⟩ : ∃ x, x = d[a]! := ⟨_, rfl⟩
        have l10a := S1.out.ld R (by omega) P (h) (by omega)
        have l10b := S1.out.ld R (by omega) P (a) (by omega)
        rw [← hx10] at l10a
        rw [← hy10] at l10b
        have hc10 := S1.out.cmp HC.out (by omega) x10 y10
        have hv10 : cf x10 y10 < 0 := by rw [hx10, hy10]; exact of_decide_eq_true hlv
        have hd10 : decide (cf x10 y10 < 0) = true := decide_eq_true hv10
        have HLV := Lib.hid hlv
        clear hx10 hy10 hlv
        go_wp2_with fail
        go_quiet_grown (first | (go_at_fn g; refine Calls.grown_of (hc10 _ _)))
        have SV : Aside (SWK enc k w0 blk off d (grow (wr.drewN nq) osq)) := S1.out.grown nq osq
        clear l10a l10b hc10 S1
        generalize grow (wr.drewN nq) osq = wv at SV ⊢
        clear nq osq
        go_wp2
        go_roundw
        case rel => exact ⟨h + 1, j, by go_num, rfl, by omega, by omega, by omega, SV, fun c h1 h2 => by
          rcases Nat.lt_or_ge c i with hc | hc
          · exact HI.out c h1 hc
          · exact MONO.out c h h1 (by omega) (by omega) HT.out, HJ⟩
        case measure => simp [intOf]; omega
      | false =>
        have HT : Hid ((ltOf cf d[h]! d[a]!) = false) := by show _ = _; rw [hlv]
        have e10p : ((h : Int)).toNat = h := by omega
        have p10p : (0 : Int) ≤ (h : Int) := by omega
        have b10p : (h : Int) < (N : Int) := by omega
        have r10p : IntKind.i64.wrap ((h : Int)) = (h : Int) := by rw [IntKind.wrap_i64]; omega
        skip
        have e10q : ((a : Int)).toNat = a := by omega
        have p10q : (0 : Int) ≤ (a : Int) := by omega
        have b10q : (a : Int) < (N : Int) := by omega
        have r10q : IntKind.i64.wrap ((a : Int)) = (a : Int) := by rw [IntKind.wrap_i64]; omega
        skip
        obtain ⟨x10, hx10⟩ : ∃ x, x = d[h]! := ⟨_, rfl⟩
        obtain ⟨y10, hy10⟩ : ∃ x, x = d[a]! := ⟨_, rfl⟩
        have l10a := S1.out.ld R (by omega) P (h) (by omega)
        have l10b := S1.out.ld R (by omega) P (a) (by omega)
        rw [← hx10] at l10a
        rw [← hy10] at l10b
        have hc10 := S1.out.cmp HC.out (by omega) x10 y10
        have hv10 : ¬ cf x10 y10 < 0 := by rw [hx10, hy10]; exact of_decide_eq_false hlv
        have hd10 : decide (cf x10 y10 < 0) = false := decide_eq_false hv10
        have HLV := Lib.hid hlv
        clear hx10 hy10 hlv
        go_wp2_with fail
        go_quiet_grown (first | (go_at_fn g; refine Calls.grown_of (hc10 _ _)))
        have SV : Aside (SWK enc k w0 blk off d (grow (wr.drewN nq) osq)) := S1.out.grown nq osq
        clear l10a l10b hc10 S1
        generalize grow (wr.drewN nq) osq = wv at SV ⊢
        clear nq osq
        go_wp2
        go_roundw
        case rel => exact ⟨i, h, rfl, by go_num, by omega, by omega, by omega, SV, HI, fun c h1 h2 => by
          cases hT : (ltOf cf d[c]! d[a]!) with
          | false => rfl
          | true => exact absurd (MONO.out h c (by omega) h1 (by omega) hT) (by rw [HT.out]; decide)⟩
        case measure => simp [intOf]; omega
    · have hltz : ¬ (i : Int) < (j : Int) := by omega
      have HIJ : Hid (i = j) := by show _ = _; omega
      -- the run of x up to the place
      have HS1 : Hid (mrg (ltOf cf) [x] B = B.take (i - m) ++ x :: B.drop (i - m)) := mrg_left HO.out d X Y B x a m b i HX.out ham HB.out HD.out (by omega) (by omega) HI.out (by have := HJ.out; rw [← HIJ.out] at this; exact this)
      clear HI HJ HIJ MONO
      go_wp2_with fail
      go_loopw [13] (fun vi wr => ∃ (q : Nat) (dk : Array α), vi = .int .i64 q ∧ a ≤ q ∧ q + 1 ≤ i ∧ dk.size = N ∧ Aside (SWK enc k w0 blk off dk wr) ∧ Hid (dk.toList = X ++ B.take (q - a) ++ x :: (B.drop (q - a) ++ Y))) (fun vi _ => i - (intOf vi).toNat)
      case atStart => exact ⟨a, d, rfl, by omega, by omega, hN, S1, by show _ = _; rw [HD.out]; simp⟩
      case round =>
        clear S1
        obtain ⟨q, dk, rfl, haq, hqi, hds, S3, HL⟩ := hrel
        by_cases hlt2 : q + 1 < i
        · have hltz2 : (q : Int) < (i : Int) - 1 := by omega
          have eq1 : ((q : Int)).toNat = q := by omega
          have pq1 : (0 : Int) ≤ (q : Int) := by omega
          have bq1 : (q : Int) < (N : Int) := by omega
          have rq1 : IntKind.i64.wrap ((q : Int)) = (q : Int) := by rw [IntKind.wrap_i64]; omega
          skip
          have eq2 : ((q : Int) + 1).toNat = q + 1 := by omega
          have pq2 : (0 : Int) ≤ (q : Int) + 1 := by omega
          have bq2 : (q : Int) + 1 < (N : Int) := by omega
          have rq2 : IntKind.i64.wrap ((q : Int) + 1) = (q : Int) + 1 := by rw [IntKind.wrap_i64]; omega
          skip
          have S4 : Aside (SWK enc k w0 blk off (swp dk (q) (q + 1)) ((wr.drew.setCells blk (off + (q) * k) (enc dk[q + 1]!)).setCells blk (off + (q + 1) * k) (enc dk[q]!))) := S3.out.swapped R (q) (q + 1) (by omega) (by omega)
          have l8a := S3.out.ld1 R (by omega) P (q) (by omega)
          have l8b := S3.out.ld1 R (by omega) P (q + 1) (by omega)
          have s8a := S3.out.st1 R (by omega) P (q) (by omega) dk[q + 1]!
          have s8b := S3.out.st2 R (by omega) P (q) (q + 1) (by omega) (by omega) dk[q + 1]! dk[q]!
          have n8a : (enc dk[q]!).length = k := R.hk _
          have n8b : (enc dk[q + 1]!).length = k := R.hk _
          generalize enc dk[q]! = cI8 at S4 l8a s8b n8a
          generalize enc dk[q + 1]! = cJ8 at S4 l8b s8a s8b n8b
          clear S3
          go_wp2_with fail
          go_big_region_o
          clear l8a l8b s8a s8b
          generalize (wr.drew.setCells blk (off + (q) * k) cJ8).setCells blk (off + (q + 1) * k) cI8 = w2 at S4 ⊢
          go_wp2
          go_roundw
          case rel =>
            refine ⟨q + 1, swp dk q (q + 1), by go_num, by omega, by omega, by rw [size_swp]; exact hds, S4, ?_⟩
            have hb1 : q - a < B.length := by have := HB.out; omega
            show _ = _
            rw [show q + 1 - a = (q - a) + 1 from by omega]
            exact run_right dk X B Y x (q - a) q hb1 (by rw [HX.out]; omega) HL.out
          case measure => simp [intOf]; omega
        · have hltz2 : ¬ (q : Int) < (i : Int) - 1 := by omega
          have HQ : Hid (q + 1 = i) := by show _ = _; omega
          go_wp2
          refine bodyPost_ret (results_none rfl _ _ _) rfl ?_
          refine ⟨rfl, dk, hds, S3.out, ?_⟩
          rw [HL.out, HS1.out, show i - m = q - a from by have := HQ.out; omega]
          simp

set_option maxHeartbeats 8000000 in
set_option maxRecDepth 1000000 in
/-- symMerge where the second run is one element: it is run into the first one. -/
theorem symMerge_right (L : StP P) (k : Nat) (aE : ∀ w, (isAgg 43).run P w = .ok true w) (zE : ∀ w, (Go.sizeOf 43).run P w = .ok k w) (enc : α → List Value) (g : Nat) (cb : Array Value) (blk off cap N : Nat) (d0 : Array α) (w0 : World) (R : RowK enc k w0 blk off d0) (cf : α → α → Int) (hO : SWO (ltOf cf)) (eg : ∀ args w, (callFunc g args).run P w = .ok (.enter g args) w) (hcmp : CmpLays P g cb enc k cf blk off d0.size w0)
    (a m b : Nat) (d : Array α) (w : World) (hs : d0.size = N) (hN : d.size = N) (hS : SWK enc k w0 blk off d w) (ham : a + 2 ≤ m) (hmb : m + 1 = b) (hb : b ≤ N) (hsz : N < 4611686018427387904)
    (X Y B : List α) (y : α) (hX : X.length = a) (hB : a + B.length = m) (hd : d.toList = X ++ B ++ y :: Y) (hsrt : Srt (ltOf cf) B) :
    Calls P 117 #[.slice (some ⟨blk, off, none⟩) N cap, .int .i64 a, .int .i64 m, .int .i64 b, .func (.func g) #[] cb] w fun e w' => e = .returned (.tuple #[]) ∧ ∃ d', d'.size = N ∧ SWK enc k w0 blk off d' w' ∧ d'.toList = X ++ mrg (ltOf cf) B [y] ++ Y := by
  have mixed := L.mixed; have t0 := L.t0; have a0 := L.a0; have z0 := L.z0; have v0 := L.v0; have t1 := L.t1; have a1 := L.a1; have z1 := L.z1; have v1 := L.v1; have t2 := L.t2; have a2 := L.a2; have z2 := L.z2; have v2 := L.v2; have t3 := L.t3; have a3 := L.a3; have z3 := L.z3; have v3 := L.v3; have t4 := L.t4; have a4 := L.a4; have z4 := L.z4; have v4 := L.v4; have t5 := L.t5; have a5 := L.a5; have z5 := L.z5; have v5 := L.v5
  have S0 : Aside (SWK enc k w0 blk off d w) := hS
  have HC : Aside _ := hcmp
  have HD : Hid (d.toList = X ++ B ++ y :: Y) := hd
  have HX := Lib.hid hX
  have HB := Lib.hid hB
  have HSRT := Lib.hid hsrt
  have HO := Lib.hid hO
  clear hS hcmp hd hX hB hsrt hO
  have h1 : ((m : Int) - (a : Int) == 1) = false := by rw [beq_eq_false_iff_ne]; omega
  have h1' : ((b : Int) - (m : Int) == 1) = true := by rw [beq_iff_eq]; omega
  have MONO : Hid (∀ c' c, a ≤ c' → c' ≤ c → c < m → (!ltOf cf d[m]! d[c]!) = true → (!ltOf cf d[m]! d[c']!) = true) := mono_right HO.out d X (y :: Y) B y a m HX.out HB.out HD.out HSRT.out
  go_enter L.fsym, Tryz.ntmps117
  go_wp2_with fail
  go_loopw [14, 15] (fun vi vj wr => ∃ (i j : Nat), vi = .int .i64 i ∧ vj = .int .i64 j ∧ a ≤ i ∧ i ≤ j ∧ j ≤ m ∧ Aside (SWK enc k w0 blk off d wr) ∧
      Hid (∀ c, a ≤ c → c < i → (!ltOf cf d[m]! d[c]!) = true) ∧ Hid (∀ c, j ≤ c → c < m → (!ltOf cf d[m]! d[c]!) = false)) (fun vi vj _ => (intOf vj).toNat - (intOf vi).toNat)
  case atStart => exact ⟨a, m, rfl, rfl, by omega, by omega, by omega, S0, fun c h1 h2 => by omega, fun c h1 h2 => by omega⟩
  case round =>
    clear S0
    obtain ⟨i, j, rfl, rfl, hli, hij, hjh, S1, HI, HJ⟩ := hrel
    by_cases hlt : i < j
    · have hltz : (i : Int) < (j : Int) := by omega
      obtain ⟨h, hh1, hh2, hh⟩ : ∃ h : Nat, i ≤ h ∧ h < j ∧ h = (i + j) / 2 := ⟨(i + j) / 2, by omega, by omega, rfl⟩
      have ez : ((i : Int) + (j : Int)) / 2 = (h : Int) := by omega
      clear hh
      cases hlv : ltOf cf d[m]! d[h]! with
      | true =>
        have HT : Hid ((!ltOf cf d[m]! d[h]!) = false) := by show _ = _; rw [hlv]; rfl
        have e14p : ((m : Int)).toNat = m := by omega
        have p14p : (0 : Int) ≤ (m : Int) := by omega
        have b14p : (m : Int) < (N : Int) := by omega
        have r14p : IntKind.i64.wrap ((m : Int)) = (m : Int) := by rw [IntKind.wrap_i64]; omega
        skip
        have e14q : ((h : Int)).toNat = h := by omega
        have p14q : (0 : Int) ≤ (h : Int) := by omega
        have b14q : (h : Int) < (N : Int) := by omega
        have r14q : IntKind.i64.wrap ((h : Int)) = (h : Int) := by rw [IntKind.wrap_i64]; omega
        skip
        obtain ⟨x14, hx14⟩ : ∃ x, x = d[m]! := ⟨_, rfl⟩
        obtain ⟨y14, hy14⟩ : ∃ x, x = d[h]! := ⟨_, rfl⟩
        have l14a := S1.out.ld R (by omega) P (m) (by omega)
        have l14b := S1.out.ld R (by omega) P (h) (by omega)
        rw [← hx14] at l14a
        rw [← hy14] at l14b
        have hc14 := S1.out.cmp HC.out (by omega) x14 y14
        have hv14 : cf x14 y14 < 0 := by rw [hx14, hy14]; exact of_decide_eq_true hlv
        have hd14 : decide (cf x14 y14 < 0) = true := decide_eq_true hv14
        have HLV := Lib.hid hlv
        clear hx14 hy14 hlv
        go_wp2_with fail
        go_quiet_grown (first | (go_at_fn g; refine Calls.grown_of (hc14 _ _)))
        have SV : Aside (SWK enc k w0 blk off d (grow (wr.drewN nq) osq)) := S1.out.grown nq osq
        clear l14a l14b hc14 S1
        generalize grow (wr.drewN nq) osq = wv at SV ⊢
        clear nq osq
        go_wp2
        go_roundw
        case rel => exact ⟨i, h, rfl, by go_num, by omega, by omega, by omega, SV, HI, fun c h1 h2 => by
          cases hT : (!ltOf cf d[m]! d[c]!) with
          | false => rfl
          | true => exact absurd (MONO.out h c (by omega) h1 (by omega) hT) (by rw [HT.out]; decide)⟩
        case measure => simp [intOf]; omega
      | false =>
        have HT : Hid ((!ltOf cf d[m]! d[h]!) = true) := by show _ = _; rw [hlv]; rfl
        have e14p : ((m : Int)).toNat = m := by omega
        have p14p : (0 : Int) ≤ (m : Int) := by omega
        have b14p : (m : Int) < (N : Int) := by omega
        have r14p : IntKind.i64.wrap ((m : Int)) = (m : Int) := by rw [IntKind.wrap_i64]; omega
        skip
        have e14q : ((h : Int)).toNat = h := by omega
        have p14q : (0 : Int) ≤ (h : Int) := by omega
        have b14q : (h : Int) < (N : Int) := by omega
        have r14q : IntKind.i64.wrap ((h : Int)) = (h : Int) := by rw [IntKind.wrap_i64]; omega
        skip
        obtain ⟨x14, hx14⟩ : ∃ x, x = d[m]! := ⟨_, rfl⟩
        obtain ⟨y14, hy14⟩ : ∃ x, x = d[h]! := ⟨_, rfl⟩
        have l14a := S1.out.ld R (by omega) P (m) (by omega)
        have l14b := S1.out.ld R (by omega) P (h) (by omega)
        rw [← hx14] at l14a
        rw [← hy14] at l14b
        have hc14 := S1.out.cmp HC.out (by omega) x14 y14
        have hv14 : ¬ cf x14 y14 < 0 := by rw [hx14, hy14]; exact of_decide_eq_false hlv
        have hd14 : decide (cf x14 y14 < 0) = false := decide_eq_false hv14
        have HLV := Lib.hid hlv
        clear hx14 hy14 hlv
        go_wp2_with fail
        go_quiet_grown (first | (go_at_fn g; refine Calls.grown_of (hc14 _ _)))
        have SV : Aside (SWK enc k w0 blk off d (grow (wr.drewN nq) osq)) := S1.out.grown nq osq
        clear l14a l14b hc14 S1
        generalize grow (wr.drewN nq) osq = wv at SV ⊢
        clear nq osq
        go_wp2
        go_roundw
        case rel => exact ⟨h + 1, j, by go_num, rfl, by omega, by omega, by omega, SV, fun c h1 h2 => by
          rcases Nat.lt_or_ge c i with hc | hc
          · exact HI.out c h1 hc
          · exact MONO.out c h h1 (by omega) (by omega) HT.out, HJ⟩
        case measure => simp [intOf]; omega
    · have hltz : ¬ (i : Int) < (j : Int) := by omega
      have HIJ : Hid (i = j) := by show _ = _; omega
      -- the run of y down to the place
      have HS1 : Hid (mrg (ltOf cf) B [y] = B.take (i - a) ++ y :: B.drop (i - a)) := mrg_right HO.out d X Y B y a m i HX.out HB.out HD.out (by omega) (by omega) HI.out (by have := HJ.out; rw [← HIJ.out] at this; exact this)
      clear HI HJ HIJ MONO
      go_wp2_with fail
      go_loopw [17] (fun vi wr => ∃ (q : Nat) (dk : Array α), vi = .int .i64 q ∧ i ≤ q ∧ q ≤ m ∧ dk.size = N ∧ Aside (SWK enc k w0 blk off dk wr) ∧ Hid (dk.toList = X ++ B.take (q - a) ++ y :: (B.drop (q - a) ++ Y))) (fun vi _ => (intOf vi).toNat - i)
      case atStart => exact ⟨m, d, rfl, by omega, by omega, hN, S1, by show _ = _; rw [HD.out, List.take_of_length_le (by have := HB.out; omega), List.drop_eq_nil_of_le (by have := HB.out; omega)]; simp⟩
      case round =>
        clear S1
        obtain ⟨q, dk, rfl, hiq, hqm, hds, S3, HL⟩ := hrel
        by_cases hlt2 : i < q
        · have hltz2 : (i : Int) < (q : Int) := by omega
          obtain ⟨p, rfl⟩ : ∃ p, q = p + 1 := ⟨q - 1, by omega⟩
          have eq1 : ((p : Int) + 1).toNat = p + 1 := by omega
          have pq1 : (0 : Int) ≤ (p : Int) + 1 := by omega
          have bq1 : (p : Int) + 1 < (N : Int) := by omega
          have rq1 : IntKind.i64.wrap ((p : Int) + 1) = (p : Int) + 1 := by rw [IntKind.wrap_i64]; omega
          skip
          have eq2 : ((p : Int) + 1 - 1).toNat = p := by omega
          have pq2 : (0 : Int) ≤ (p : Int) + 1 - 1 := by omega
          have bq2 : (p : Int) + 1 - 1 < (N : Int) := by omega
          have rq2 : IntKind.i64.wrap ((p : Int) + 1 - 1) = (p : Int) + 1 - 1 := by rw [IntKind.wrap_i64]; omega
          skip
          have eq3 : ((p : Int)).toNat = p := by omega
          have pq3 : (0 : Int) ≤ (p : Int) := by omega
          have bq3 : (p : Int) < (N : Int) := by omega
          have rq3 : IntKind.i64.wrap ((p : Int)) = (p : Int) := by rw [IntKind.wrap_i64]; omega
          skip
          have S4 : Aside (SWK enc k w0 blk off (swp dk (p + 1) (p)) ((wr.drew.setCells blk (off + (p + 1) * k) (enc dk[p]!)).setCells blk (off + (p) * k) (enc dk[p + 1]!))) := S3.out.swapped R (p + 1) (p) (by omega) (by omega)
          have l8a := S3.out.ld1 R (by omega) P (p + 1) (by omega)
          have l8b := S3.out.ld1 R (by omega) P (p) (by omega)
          have s8a := S3.out.st1 R (by omega) P (p + 1) (by omega) dk[p]!
          have s8b := S3.out.st2 R (by omega) P (p + 1) (p) (by omega) (by omega) dk[p]! dk[p + 1]!
          have n8a : (enc dk[p + 1]!).length = k := R.hk _
          have n8b : (enc dk[p]!).length = k := R.hk _
          generalize enc dk[p + 1]! = cI8 at S4 l8a s8b n8a
          generalize enc dk[p]! = cJ8 at S4 l8b s8a s8b n8b
          clear S3
          go_wp2_with fail
          go_big_region_o
          clear l8a l8b s8a s8b
          generalize (wr.drew.setCells blk (off + (p + 1) * k) cJ8).setCells blk (off + (p) * k) cI8 = w2 at S4 ⊢
          go_wp2
          go_roundw
          case rel =>
            refine ⟨p, swp dk (p + 1) p, by go_num, by omega, by omega, by rw [size_swp]; exact hds, S4, ?_⟩
            have hb1 : p - a < B.length := by have := HB.out; omega
            show _ = _
            rw [swp_comm dk _ _ (by omega) (by omega)]
            have h7 := HL.out
            rw [show p + 1 - a = (p - a) + 1 from by omega] at h7
            exact run_left dk X B Y y (p - a) p hb1 (by rw [HX.out]; omega) h7
          case measure => simp [intOf]; omega
        · have hltz2 : ¬ (i : Int) < (q : Int) := by omega
          have HQ : Hid (q = i) := by show _ = _; omega
          go_wp2
          refine bodyPost_ret (results_none rfl _ _ _) rfl ?_
          refine ⟨rfl, dk, hds, S3.out, ?_⟩
          rw [HL.out, HS1.out, HQ.out]
          simp

end Go.Proofs.YtefdoineacfbhaaGreatDoor.StE
