/- symMerge whole, stableCmpFunc and SortStableFunc at weir/api.Elem. -/
import Derived.Test.YtefdoineacfbhaaGreatDoorStableEB
namespace Go.Proofs.YtefdoineacfbhaaGreatDoor.StE
open Go Go.Proofs Go.Shelf Go.RowKit Go.Lib Go.Sort
variable {P : Program} {α : Type} [Inhabited α]

theorem symMerge (L : StP P) (k : Nat) (aE : ∀ w, (isAgg 43).run P w = .ok true w) (zE : ∀ w, (Go.sizeOf 43).run P w = .ok k w) (enc : α → List Value) (g : Nat) (cb : Array Value) (blk off cap N : Nat) (d0 : Array α) (w0 : World) (R : RowK enc k w0 blk off d0) (cf : α → α → Int) (hO : SWO (ltOf cf)) (eg : ∀ args w, (callFunc g args).run P w = .ok (.enter g args) w) (hcmp : CmpLays P g cb enc k cf blk off d0.size w0) (hs : d0.size = N) (hsz : N < 4611686018427387904) :
    ∀ K, Sym P enc k w0 blk off cap N g cb cf K := by
  intro K
  induction K with
  | zero => intro a m b d w hK _ _ h1 h2; omega
  | succ K ih =>
    intro a m b d w hK hN hS ham hmb hb X Y A B hX hA hB hd hsA hsB
    by_cases h1 : a + 1 = m
    · obtain ⟨x, rfl⟩ : ∃ x, A = [x] := List.length_eq_one_iff.1 (by omega)
      exact symMerge_left L k aE zE enc g cb blk off cap N d0 w0 R cf hO eg hcmp a m b d w hs hN hS h1 hmb hb hsz X Y B x hX hB hd hsB
    · by_cases h2 : m + 1 = b
      · obtain ⟨y, rfl⟩ : ∃ y, B = [y] := List.length_eq_one_iff.1 (by omega)
        exact symMerge_right L k aE zE enc g cb blk off cap N d0 w0 R cf hO eg hcmp a m b d w hs hN hS (by omega) h2 hb hsz X Y A y hX hA (by rw [hd]; simp) hsA
      · by_cases h3 : (a + b) / 2 < m
        · exact symMerge_mid1 L k aE zE enc g cb blk off cap N d0 w0 R cf hO eg hcmp K ih a m b _ d w hs hK hN hS (by omega) (by omega) hb rfl h3 hsz X Y A B hX hA hB hd hsA hsB
        · exact symMerge_mid2 L k aE zE enc g cb blk off cap N d0 w0 R cf hO eg hcmp K ih a m b _ d w hs hK hN hS (by omega) (by omega) hb rfl (by omega) hsz X Y A B hX hA hB hd hsA hsB

/-- insertionSort, on lists. -/
theorem insSort (L : StP P) (k : Nat) (aE : ∀ w, (isAgg 43).run P w = .ok true w) (zE : ∀ w, (Go.sizeOf 43).run P w = .ok k w) (enc : α → List Value) (g : Nat) (cb : Array Value) (blk off cap N : Nat) (d0 : Array α) (w0 : World) (R : RowK enc k w0 blk off d0) (cf : α → α → Int) (hO : SWO (ltOf cf)) (eg : ∀ args w, (callFunc g args).run P w = .ok (.enter g args) w) (hcmp : CmpLays P g cb enc k cf blk off d0.size w0)
    (a b : Nat) (d : Array α) (w : World) (hs : d0.size = N) (hN : d.size = N) (hS : SWK enc k w0 blk off d w) (hab : a ≤ b) (hb : b ≤ N) (hsz : N < 4611686018427387904) (X B Y : List α) (hX : X.length = a) (hB : b = a + B.length) (hd : d.toList = X ++ B ++ Y) :
    Calls P 116 #[.slice (some ⟨blk, off, none⟩) N cap, .int .i64 a, .int .i64 b, .func (.func g) #[] cb] w fun e w' => e = .returned (.tuple #[]) ∧ ∃ d', d'.size = N ∧ SWK enc k w0 blk off d' w' ∧ d'.toList = X ++ isort (ltOf cf) B ++ Y := by
  have h := AnyQ.insertionSortCmpFunc_w L.ins k aE zE enc cf g cb blk off cap a b d0 d w0 w eg hcmp R (by omega) hS hO hab (by omega) (by omega)
  rw [hN] at h
  refine Calls.mono h ?_
  rintro e w' ⟨rfl, hS'⟩
  have hl := insertionSort_list (lt := ltOf cf) hO a b X B Y d hX hB hd
  exact ⟨rfl, _, by have := congrArg List.length hl; have h2 := congrArg List.length hd; simp only [List.length_append, isort_length, Array.length_toList] at this h2; omega, hS', hl⟩

set_option maxHeartbeats 16000000 in
set_option maxRecDepth 1000000 in
/-- stableCmpFunc: the row is sorted, stably. -/
theorem stable (L : StP P) (k : Nat) (aE : ∀ w, (isAgg 43).run P w = .ok true w) (zE : ∀ w, (Go.sizeOf 43).run P w = .ok k w) (enc : α → List Value) (g : Nat) (cb : Array Value) (blk off cap N : Nat) (d0 : Array α) (w0 : World) (R : RowK enc k w0 blk off d0) (cf : α → α → Int) (hO : SWO (ltOf cf)) (eg : ∀ args w, (callFunc g args).run P w = .ok (.enter g args) w) (hcmp : CmpLays P g cb enc k cf blk off d0.size w0)
    (d : Array α) (w : World) (hs : d0.size = N) (hN : d.size = N) (hS : SWK enc k w0 blk off d w) (hsz : N < 1073741824) :
    Calls P 74 #[.slice (some ⟨blk, off, none⟩) N cap, .int .i64 N, .func (.func g) #[] cb] w fun e w' => e = .returned (.tuple #[]) ∧ ∃ d', d'.size = N ∧ SWK enc k w0 blk off d' w' ∧ d'.toList = isort (ltOf cf) d.toList := by
  have mixed := L.mixed; have t0 := L.t0; have a0 := L.a0; have z0 := L.z0; have v0 := L.v0; have t1 := L.t1; have a1 := L.a1; have z1 := L.z1; have v1 := L.v1; have t2 := L.t2; have a2 := L.a2; have z2 := L.z2; have v2 := L.v2; have t3 := L.t3; have a3 := L.a3; have z3 := L.z3; have v3 := L.v3; have t4 := L.t4; have a4 := L.a4; have z4 := L.z4; have v4 := L.v4; have t5 := L.t5; have a5 := L.a5; have z5 := L.z5; have v5 := L.v5
  have eins : ∀ args w, (callFunc 116 args).run P w = .ok (.enter 116 args) w := enters_of L.fins (by kernel_rfl) rfl
  have esym : ∀ args w, (callFunc 117 args).run P w = .ok (.enter 117 args) w := enters_of L.fsym (by kernel_rfl) rfl
  have HSYM := Lib.hid (symMerge L k aE zE enc g cb blk off cap N d0 w0 R cf hO eg hcmp hs (by omega))
  have HINS := Lib.hid (fun a b d w h1 h2 h3 h4 X B Y h5 h6 h7 => insSort L k aE zE enc g cb blk off cap N d0 w0 R cf hO eg hcmp a b d w hs h1 h2 h3 h4 (by omega) X B Y h5 h6 h7)
  obtain ⟨l, hl⟩ : ∃ l, d.toList = l := ⟨_, rfl⟩
  have HLEN : Hid (l.length = N) := by show _ = _; rw [← hl, ← hN]; simp
  have S0 : Aside (SWK enc k w0 blk off d w) := hS
  have HO := Lib.hid hO
  have HD := Lib.hid hl
  rw [hl]
  clear hS hO hl hcmp
  go_enter L.fstb, Tryz.ntmps74
  go_wp2_with fail
  go_loopw [7, 8] (fun va vb wr => ∃ (a b : Nat) (dk : Array α) (Q : List α), va = .int .i64 a ∧ vb = .int .i64 b ∧ b ≤ a + 20 ∧ a + 20 ≤ b ∧ a ≤ N ∧ dk.size = N ∧ Aside (SWK enc k w0 blk off dk wr) ∧
      Hid (Q.length = a ∧ dk.toList = Q ++ l.drop a ∧ Q ++ bsort (ltOf cf) 20 (l.drop a) = bsort (ltOf cf) 20 l)) (fun va _ _ => N - (intOf va).toNat)
  case atStart => exact ⟨0, 20, d, [], rfl, rfl, by omega, by omega, by omega, hN, S0, rfl, by rw [HD.out]; rfl, rfl⟩
  case round =>
    clear S0
    obtain ⟨a, b, dk, Q, rfl, rfl, hba, hab, haN, hds, S1, HL⟩ := hrel
    by_cases hlt : b ≤ N
    · have hltz : (b : Int) ≤ (N : Int) := by omega
      have hds1 : l.drop a = (l.drop a).take 20 ++ l.drop b := by
        rw [show b = a + 20 from by omega, ← List.drop_drop, List.take_append_drop]
      have hl20 : b = a + ((l.drop a).take 20).length := by have := HLEN.out; simp; omega
      have hcon := fun W hW => HINS.out a b dk W hds hW (by omega) (by omega) Q ((l.drop a).take 20) (l.drop b) HL.out.1 hl20 (by rw [HL.out.2.1, List.append_assoc, ← hds1])
      have HC := Lib.hid (hcon _ S1.out)
      have HF : Hid ((Q ++ isort (ltOf cf) ((l.drop a).take 20)).length = b ∧ Q ++ isort (ltOf cf) ((l.drop a).take 20) ++ bsort (ltOf cf) 20 (l.drop b) = bsort (ltOf cf) 20 l) := by
        refine ⟨by rw [List.length_append, isort_length, HL.out.1]; exact hl20.symm, ?_⟩
        rw [← HL.out.2.2, bsort_long (bs := 20) (by decide) (show 20 ≤ (l.drop a).length by have := HLEN.out; simp; omega), List.drop_drop, show a + 20 = b from by omega]
        simp
      clear hcon hds1 hl20
      go_wp2_with fail
      refine HC.out.mono ?_
      rintro e w2 ⟨rfl, d2, hd2, hS2, hl2⟩
      have HL2 := Lib.hid hl2
      have HS2 := Lib.hid hS2
      clear hl2 hS2 HC
      go_wp2
      go_roundw
      case rel => exact ⟨b, b + 20, d2, Q ++ isort (ltOf cf) ((l.drop a).take 20), rfl, by go_num, by omega, by omega, by omega, hd2, HS2.out, HF.out.1, by rw [HL2.out], HF.out.2⟩
      case measure => simp [intOf]; omega
    · have hltz : ¬ (b : Int) ≤ (N : Int) := by omega
      have hlN : N = a + (l.drop a).length := by have := HLEN.out; simp; omega
      have hcon := fun W hW => HINS.out a N dk W hds hW haN (by omega) Q (l.drop a) [] HL.out.1 hlN (by rw [HL.out.2.1]; simp)
      have HC := Lib.hid (hcon _ S1.out)
      have HF : Hid (Q ++ isort (ltOf cf) (l.drop a) = bsort (ltOf cf) 20 l) := by
        show _ = _
        rw [← HL.out.2.2, bsort_short (bs := 20) (by omega)]
      clear hcon hlN
      go_wp2_with fail
      refine HC.out.mono ?_
      rintro e w2 ⟨rfl, d2, hd2, hS2, hl2⟩
      have HL2 : Hid (d2.toList = bsort (ltOf cf) 20 l) := by show _ = _; rw [hl2, List.append_nil, HF.out]
      have S2 : Aside (SWK enc k w0 blk off d2 w2) := hS2
      clear hl2 hS2 HC HF HL S1 hds hltz hlt
      go_wp2_with fail
      go_loopw [6] (fun v wr => ∃ (bs : Nat) (dk : Array α), v = .int .i64 bs ∧ 20 ≤ bs ∧ bs ≤ 4294967296 ∧ dk.size = N ∧ Aside (SWK enc k w0 blk off dk wr) ∧ Hid (dk.toList = bsort (ltOf cf) bs l)) (fun v _ => N - (intOf v).toNat)
      case atStart => exact ⟨20, d2, rfl, by omega, by omega, hd2, S2, HL2⟩
      case round =>
        clear S2 HL2 hd2
        obtain ⟨bs, dk, rfl, hbs, hbs2, hds, S3, HL3⟩ := hrel
        by_cases hlt : bs < N
        · have hltz : (bs : Int) < (N : Int) := by omega
          obtain ⟨b2, hb2⟩ : ∃ b2, b2 = 2 * bs := ⟨_, rfl⟩
          have e2 : (2 : Int) * (bs : Int) = (b2 : Int) := by omega
          have hb2a : b2 ≤ 2 * bs := by omega
          have hb2b : 2 * bs ≤ b2 := by omega
          have HB2 := Lib.hid hb2
          clear hb2
          go_wp2_with fail
          go_loopw [7, 8] (fun va vb wr => ∃ (x y : Nat) (dk : Array α) (Q : List α), va = .int .i64 x ∧ vb = .int .i64 y ∧ y ≤ x + b2 ∧ x + b2 ≤ y ∧ x ≤ N ∧ dk.size = N ∧ Aside (SWK enc k w0 blk off dk wr) ∧
              Hid (Q.length = x ∧ dk.toList = Q ++ bsort (ltOf cf) bs (l.drop x) ∧ Q ++ bsort (ltOf cf) (2 * bs) (l.drop x) = bsort (ltOf cf) (2 * bs) l)) (fun va _ _ => N - (intOf va).toNat)
          case atStart => exact ⟨0, b2, dk, [], rfl, rfl, by omega, by omega, by omega, hds, S3, rfl, by rw [HL3.out]; rfl, rfl⟩
          case round =>
            clear S3 HL3 hds
            obtain ⟨x, y, dj, Q, rfl, rfl, hya, hyb, hxN, hdj, S4, HL4⟩ := hrel
            obtain ⟨mm, hmm⟩ : ∃ mm, mm = x + bs := ⟨_, rfl⟩
            have eam : (x : Int) + (bs : Int) = (mm : Int) := by omega
            have hm1 : mm ≤ x + bs := by omega
            have hm2 : x + bs ≤ mm := by omega
            have HMM := Lib.hid hmm
            clear hmm
            by_cases hlt2 : y ≤ N
            · have hltz2 : (y : Int) ≤ (N : Int) := by omega
              obtain ⟨yn, hyn⟩ : ∃ yn, yn = y + b2 := ⟨_, rfl⟩
              have ebn : (y : Int) + (b2 : Int) = (yn : Int) := by omega
              have hy1 : yn ≤ y + b2 := by omega
              have hy2 : y + b2 ≤ yn := by omega
              clear hyn
              have hln : (l.drop x).length = N - x := by have := HLEN.out; simp; omega
              have htwo := bsort_two (lt := ltOf cf) (bs := bs) (l := l.drop x) (by omega) (by omega)
              have hmer := bsort_two_merged (lt := ltOf cf) (bs := bs) (l := l.drop x) HO.out (by omega) (by omega)
              rw [List.drop_drop, List.drop_drop, show x + bs = mm from by omega, show x + 2 * bs = y from by omega] at htwo hmer
              have HC := Lib.hid (HSYM.out N x mm y dj _ (by omega) hdj S4.out (by omega) (by omega) hlt2 Q (bsort (ltOf cf) bs (l.drop y)) (isort (ltOf cf) ((l.drop x).take bs)) (isort (ltOf cf) ((l.drop mm).take bs)) HL4.out.1
                (by rw [isort_length]; have := HLEN.out; simp; omega) (by rw [isort_length]; have := HLEN.out; simp; omega) (by rw [HL4.out.2.1, htwo]; simp) (isort_srt HO.out _) (isort_srt HO.out _))
              have HF : Hid ((Q ++ mrg (ltOf cf) (isort (ltOf cf) ((l.drop x).take bs)) (isort (ltOf cf) ((l.drop mm).take bs))).length = y ∧
                  Q ++ mrg (ltOf cf) (isort (ltOf cf) ((l.drop x).take bs)) (isort (ltOf cf) ((l.drop mm).take bs)) ++ bsort (ltOf cf) (2 * bs) (l.drop y) = bsort (ltOf cf) (2 * bs) l) := by
                refine ⟨?_, by rw [← HL4.out.2.2, hmer]; simp⟩
                rw [List.length_append, mrg_length _ _ _ (Nat.le_refl _), isort_length, isort_length, HL4.out.1]
                have := HLEN.out
                simp; omega
              clear htwo hmer hln
              go_wp2_with fail
              refine HC.out.mono ?_
              rintro e w3 ⟨rfl, d3, hd3, hS3, hl3⟩
              have HL3 := Lib.hid hl3
              have HS3 := Lib.hid hS3
              clear hl3 hS3 HC
              go_wp2
              go_roundw
              case rel => exact ⟨y, yn, d3, Q ++ mrg (ltOf cf) (isort (ltOf cf) ((l.drop x).take bs)) (isort (ltOf cf) ((l.drop mm).take bs)), rfl, rfl, by omega, by omega, by omega, hd3, HS3.out, HF.out.1, by rw [HL3.out], HF.out.2⟩
              case measure => simp [intOf]; omega
            · have hltz2 : ¬ (y : Int) ≤ (N : Int) := by omega
              have hln : (l.drop x).length = N - x := by have := HLEN.out; simp; omega
              have HE : Hid (∀ z : Int, z = (bs : Int) * 2 → z = (b2 : Int)) := fun z h => by omega
              by_cases hm : mm < N
              · have hmz : (mm : Int) < (N : Int) := by omega
                have hres := bsort_rest (lt := ltOf cf) (bs := bs) (l := l.drop x) (by omega) (by omega) (by omega)
                have hmer := bsort_rest_merged (lt := ltOf cf) (bs := bs) (l := l.drop x) HO.out (by omega)
                rw [List.drop_drop, show x + bs = mm from by omega] at hres hmer
                have HC := Lib.hid (HSYM.out N x mm N dj _ (by omega) hdj S4.out (by omega) hm (Nat.le_refl _) Q [] (isort (ltOf cf) ((l.drop x).take bs)) (isort (ltOf cf) (l.drop mm)) HL4.out.1
                  (by rw [isort_length]; have := HLEN.out; simp; omega) (by rw [isort_length]; have := HLEN.out; simp; omega) (by rw [HL4.out.2.1, hres]; simp) (isort_srt HO.out _) (isort_srt HO.out _))
                have HF : Hid (Q ++ mrg (ltOf cf) (isort (ltOf cf) ((l.drop x).take bs)) (isort (ltOf cf) (l.drop mm)) ++ [] = bsort (ltOf cf) (2 * bs) l) := by
                  show _ = _
                  rw [← HL4.out.2.2, hmer, List.append_nil]
                clear hres hmer hln
                go_wp2_with fail
                refine HC.out.mono ?_
                rintro e w3 ⟨rfl, d3, hd3, hS3, hl3⟩
                have HL3 := Lib.hid hl3
                have HS3 := Lib.hid hS3
                clear hl3 hS3 HC
                go_wp2
                go_roundw
                case rel => exact ⟨b2, d3, congrArg (Value.int .i64) (HE.out _ rfl), by omega, by omega, hd3, HS3.out, by show _ = _; rw [HL3.out, HF.out, HB2.out]⟩
                case measure => simp [intOf]; omega
              · have hmz : ¬ (mm : Int) < (N : Int) := by omega
                have HF : Hid (dj.toList = bsort (ltOf cf) (2 * bs) l) := by
                  show _ = _
                  rw [HL4.out.2.1, ← HL4.out.2.2, bsort_one (show (l.drop x).length ≤ bs by omega)]
                clear hln
                go_wp2
                go_roundw
                case rel => exact ⟨b2, dj, congrArg (Value.int .i64) (HE.out _ rfl), by omega, by omega, hdj, S4.out, by show _ = _; rw [HF.out, HB2.out]⟩
                case measure => simp [intOf]; omega
        · have hltz : ¬ (bs : Int) < (N : Int) := by omega
          go_wp2
          go_end0
          exact ⟨rfl, dk, hds, S3.out, by rw [HL3.out, bsort_short (by have := HLEN.out; omega)]⟩

set_option maxHeartbeats 4000000 in
set_option maxRecDepth 1000000 in
/-- SortStableFunc: the row is sorted, stably. -/
theorem sortStable (L : StP P) (k : Nat) (aE : ∀ w, (isAgg 43).run P w = .ok true w) (zE : ∀ w, (Go.sizeOf 43).run P w = .ok k w) (enc : α → List Value) (g : Nat) (cb : Array Value) (blk off cap N : Nat) (d0 : Array α) (w0 : World) (R : RowK enc k w0 blk off d0) (cf : α → α → Int) (hO : SWO (ltOf cf)) (eg : ∀ args w, (callFunc g args).run P w = .ok (.enter g args) w) (hcmp : CmpLays P g cb enc k cf blk off d0.size w0)
    (d : Array α) (w : World) (hs : d0.size = N) (hN : d.size = N) (hS : SWK enc k w0 blk off d w) (hsz : N < 1073741824) :
    Calls P 38 #[.slice (some ⟨blk, off, none⟩) N cap, .func (.func g) #[] cb] w fun e w' => e = .returned (.tuple #[]) ∧ ∃ d', d'.size = N ∧ SWK enc k w0 blk off d' w' ∧ d'.toList = isort (ltOf cf) d.toList := by
  have mixed := L.mixed; have t0 := L.t0; have a0 := L.a0; have z0 := L.z0; have v0 := L.v0; have t1 := L.t1; have a1 := L.a1; have z1 := L.z1; have v1 := L.v1; have t2 := L.t2; have a2 := L.a2; have z2 := L.z2; have v2 := L.v2; have t3 := L.t3; have a3 := L.a3; have z3 := L.z3; have v3 := L.v3; have t4 := L.t4; have a4 := L.a4; have z4 := L.z4; have v4 := L.v4; have t5 := L.t5; have a5 := L.a5; have z5 := L.z5; have v5 := L.v5
  have estb : ∀ args w, (callFunc 74 args).run P w = .ok (.enter 74 args) w := enters_of L.fstb (by kernel_rfl) rfl
  have HC := Lib.hid (stable L k aE zE enc g cb blk off cap N d0 w0 R cf hO eg hcmp d w hs hN hS hsz)
  clear hO hcmp hS
  go_enter L.fsrt, Tryz.ntmps38
  go_wp2_with fail
  refine HC.out.mono ?_
  rintro e w2 ⟨rfl, h⟩
  go_wp2_with fail
  go_end0
  exact ⟨rfl, h⟩

end Go.Proofs.YtefdoineacfbhaaGreatDoor.StE
