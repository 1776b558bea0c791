/- symMerge and stableCmpFunc at weir/api.Elem. -/
import Derived.Test.YtefdoineacfbhaaGreatDoorStableE
namespace Go.Proofs.YtefdoineacfbhaaGreatDoor.StE
open Go Go.Proofs Go.Shelf Go.RowKit Go.Lib Go.Sort
variable {P : Program} {α : Type} [Inhabited α]

/-- symMerge's contract, for runs of at most K elements together. -/
def Sym (P : Program) (enc : α → List Value) (k : Nat) (w0 : World) (blk off cap N : Nat) (g : Nat) (cb : Array Value) (cf : α → α → Int) (K : Nat) : Prop :=
  ∀ (a m b : Nat) (d : Array α) (w : World), b - a ≤ K → d.size = N → SWK enc k w0 blk off d w → a < m → m < b → b ≤ N → ∀ (X Y A B : List α), X.length = a → a + A.length = m → m + B.length = b → d.toList = X ++ A ++ B ++ Y → Srt (ltOf cf) A → Srt (ltOf cf) B →
    Calls P 117 #[.slice (some ⟨blk, off, none⟩) N cap, .int .i64 a, .int .i64 m, .int .i64 b, .func (.func g) #[] cb] w fun e w' => e = .returned (.tuple #[]) ∧ ∃ d', d'.size = N ∧ SWK enc k w0 blk off d' w' ∧ d'.toList = X ++ mrg (ltOf cf) A B ++ Y

set_option maxHeartbeats 16000000 in
set_option maxRecDepth 1000000 in
theorem symMerge_mid1 (L : StP P) (k : Nat) (aE : ∀ w, (isAgg 43).run P w = .ok true w) (zE : ∀ w, (Go.sizeOf 43).run P w = .ok k w) (enc : α → List Value) (g : Nat) (cb : Array Value) (blk off cap N : Nat) (d0 : Array α) (w0 : World) (R : RowK enc k w0 blk off d0) (cf : α → α → Int) (hO : SWO (ltOf cf)) (eg : ∀ args w, (callFunc g args).run P w = .ok (.enter g args) w) (hcmp : CmpLays P g cb enc k cf blk off d0.size w0) (K : Nat)
    (ih : Sym P enc k w0 blk off cap N g cb cf K) (a m b mid : Nat) (d : Array α) (w : World) (hs : d0.size = N) (hK : b - a ≤ K + 1) (hN : d.size = N) (hS : SWK enc k w0 blk off d w) (ham : a + 2 ≤ m) (hmb : m + 2 ≤ b) (hb : b ≤ N) (hmid : mid = (a + b) / 2) (hcase : mid < m) (hsz : N < 4611686018427387904)
    (X Y A B : List α) (hX : X.length = a) (hA : a + A.length = m) (hB : m + B.length = b) (hd : d.toList = X ++ A ++ B ++ Y) (hsA : Srt (ltOf cf) A) (hsB : Srt (ltOf cf) B) :
    Calls P 117 #[.slice (some ⟨blk, off, none⟩) N cap, .int .i64 a, .int .i64 m, .int .i64 b, .func (.func g) #[] cb] w fun e w' => e = .returned (.tuple #[]) ∧ ∃ d', d'.size = N ∧ SWK enc k w0 blk off d' w' ∧ d'.toList = X ++ mrg (ltOf cf) A B ++ Y := by
  have mixed := L.mixed; have t0 := L.t0; have a0 := L.a0; have z0 := L.z0; have v0 := L.v0; have t1 := L.t1; have a1 := L.a1; have z1 := L.z1; have v1 := L.v1; have t2 := L.t2; have a2 := L.a2; have z2 := L.z2; have v2 := L.v2; have t3 := L.t3; have a3 := L.a3; have z3 := L.z3; have v3 := L.v3; have t4 := L.t4; have a4 := L.a4; have z4 := L.z4; have v4 := L.v4; have t5 := L.t5; have a5 := L.a5; have z5 := L.z5; have v5 := L.v5
  have erot : ∀ args w, (callFunc 142 args).run P w = .ok (.enter 142 args) w := enters_of L.frot (by kernel_rfl) rfl
  have esym : ∀ args w, (callFunc 117 args).run P w = .ok (.enter 117 args) w := enters_of L.fsym (by kernel_rfl) rfl
  have S0 : Aside (SWK enc k w0 blk off d w) := hS
  have HC : Aside _ := hcmp
  have IH := Lib.hid ih
  have HD : Hid (d.toList = X ++ A ++ B ++ Y) := hd
  have HX := Lib.hid hX
  have HA := Lib.hid hA
  have HB := Lib.hid hB
  have HSA := Lib.hid hsA
  have HSB := Lib.hid hsB
  have HO := Lib.hid hO
  obtain ⟨n, hn⟩ : ∃ n, n = mid + m := ⟨_, rfl⟩
  obtain ⟨p, hp⟩ : ∃ p, p = n - 1 := ⟨_, rfl⟩
  obtain ⟨st, hst⟩ : ∃ st, st = mid + m - b := ⟨_, rfl⟩
  have HSP : Hid ((∀ c, st ≤ c → c < mid → a ≤ c ∧ c < m ∧ m ≤ p - c ∧ p - c < b) ∧ (∀ s, st ≤ s → s ≤ mid → s ≤ p + 1 ∧ a ≤ s ∧ s ≤ m ∧ m ≤ p + 1 - s ∧ p + 1 - s ≤ b) ∧ (∀ s, st = s → s = a ∨ p + 1 - s = b) ∧ (∀ s, mid = s → s = m ∨ p + 1 - s = m)) :=
    ⟨fun c h1 h2 => ⟨by omega, by omega, by omega, by omega⟩, fun s h1 h2 => ⟨by omega, by omega, by omega, by omega, by omega⟩, fun s h1 => by omega, fun s h1 => by omega⟩
  have MONO : Hid (∀ c' c, st ≤ c' → c' ≤ c → c < mid → (!ltOf cf d[p - c]! d[c]!) = true → (!ltOf cf d[p - c']! d[c']!) = true) := mono_mid hO d X Y A B a m b p st mid hX hA hB hd hsA hsB HSP.out.1
  have hpn1 : p + 1 ≤ mid + m := by omega
  have hpn2 : mid + m ≤ p + 1 := by omega
  have hm1 : 2 * mid ≤ a + b := by omega
  have hm2 : a + b ≤ 2 * mid + 1 := by omega
  have hst1 : st + b ≤ mid + m := by omega
  have hst2 : mid + m ≤ st + b := by omega
  have emid : ((a : Int) + (b : Int)) / 2 = (mid : Int) := by omega
  have en : (mid : Int) + (m : Int) = (n : Int) := by omega
  have ep : (n : Int) - 1 = (p : Int) := by omega
  have hn1 : n ≤ p + 1 := by omega
  have hn2 : p + 1 ≤ n := by omega
  have est : (n : Int) - (b : Int) = (st : Int) := by omega
  skip
  have hmidb : mid < b := by omega
  have hamid : a < mid := by omega
  have h1 : ((m : Int) - (a : Int) == 1) = false := by rw [beq_eq_false_iff_ne]; omega
  have h2 : ((b : Int) - (m : Int) == 1) = false := by rw [beq_eq_false_iff_ne]; omega
  clear hS hcmp hd hX hA hB hsA hsB hO ih hn hp hmid hst
  go_enter L.fsym, Tryz.ntmps117
  go_wp2_with fail
  go_loopw [20, 21] (fun vi vj wr => ∃ (i j : Nat), vi = .int .i64 i ∧ vj = .int .i64 j ∧ st ≤ i ∧ i ≤ j ∧ j ≤ mid ∧ Aside (SWK enc k w0 blk off d wr) ∧
      Hid (∀ c, st ≤ c → c < i → (!ltOf cf d[p - c]! d[c]!) = true) ∧ Hid (∀ c, j ≤ c → c < mid → (!ltOf cf d[p - c]! d[c]!) = false)) (fun vi vj _ => (intOf vj).toNat - (intOf vi).toNat)
  case atStart => exact ⟨st, mid, rfl, rfl, by omega, by omega, by omega, S0, fun c h1 h2 => by omega, fun c h1 h2 => by omega⟩
  case round =>
    clear S0
    obtain ⟨i, j, rfl, rfl, hli, hij, hjh, S1, HI, HJ⟩ := hrel
    by_cases hlt : i < j
    · have hltz : (i : Int) < (j : Int) := by omega
      obtain ⟨h, hh1, hh2, hh⟩ : ∃ h : Nat, i ≤ h ∧ h < j ∧ h = (i + j) / 2 := ⟨(i + j) / 2, by omega, by omega, rfl⟩
      have ez : ((i : Int) + (j : Int)) / 2 = (h : Int) := by omega
      clear hh
      cases hlv : ltOf cf d[p - h]! d[h]! with
      | true =>
        have HT : Hid ((!ltOf cf d[p - h]! d[h]!) = false) := by show _ = _; rw [hlv]; rfl
        have e20p : ((p : Int) - (h : Int)).toNat = p - h := by omega
        have p20p : (0 : Int) ≤ (p : Int) - (h : Int) := by omega
        have b20p : (p : Int) - (h : Int) < (N : Int) := by omega
        have r20p : IntKind.i64.wrap ((p : Int) - (h : Int)) = (p : Int) - (h : Int) := by rw [IntKind.wrap_i64]; omega
        have q20p : h ≤ p := by omega
        have e20q : ((h : Int)).toNat = h := by omega
        have p20q : (0 : Int) ≤ (h : Int) := by omega
        have b20q : (h : Int) < (N : Int) := by omega
        have r20q : IntKind.i64.wrap ((h : Int)) = (h : Int) := by rw [IntKind.wrap_i64]; omega
        skip
        obtain ⟨x20, hx20⟩ : ∃ x, x = d[p - h]! := ⟨_, rfl⟩
        obtain ⟨y20, hy20⟩ : ∃ x, x = d[h]! := ⟨_, rfl⟩
        have l20a := S1.out.ld R (by omega) P (p - h) (by omega)
        have l20b := S1.out.ld R (by omega) P (h) (by omega)
        rw [← hx20] at l20a
        rw [← hy20] at l20b
        have hc20 := S1.out.cmp HC.out (by omega) x20 y20
        have hv20 : cf x20 y20 < 0 := by rw [hx20, hy20]; exact of_decide_eq_true hlv
        have hd20 : decide (cf x20 y20 < 0) = true := decide_eq_true hv20
        have HLV := Lib.hid hlv
        clear hx20 hy20 hlv
        go_wp2_with fail
        go_quiet_grown (first | (go_at_fn g; refine Calls.grown_of (hc20 _ _)))
        have SV : Aside (SWK enc k w0 blk off d (grow (wr.drewN nq) osq)) := S1.out.grown nq osq
        clear l20a l20b hc20 S1
        generalize grow (wr.drewN nq) osq = wv at SV ⊢
        clear nq osq
        go_wp2
        go_roundw
        case rel => exact ⟨i, h, rfl, by go_num, by omega, by omega, by omega, SV, HI, fun c h1 h2 => by
          cases hT : (!ltOf cf d[p - c]! d[c]!) with
          | false => rfl
          | true => exact absurd (MONO.out h c (by omega) h1 (by omega) hT) (by rw [HT.out]; decide)⟩
        case measure => simp [intOf]; omega
      | false =>
        have HT : Hid ((!ltOf cf d[p - h]! d[h]!) = true) := by show _ = _; rw [hlv]; rfl
        have e20p : ((p : Int) - (h : Int)).toNat = p - h := by omega
        have p20p : (0 : Int) ≤ (p : Int) - (h : Int) := by omega
        have b20p : (p : Int) - (h : Int) < (N : Int) := by omega
        have r20p : IntKind.i64.wrap ((p : Int) - (h : Int)) = (p : Int) - (h : Int) := by rw [IntKind.wrap_i64]; omega
        have q20p : h ≤ p := by omega
        have e20q : ((h : Int)).toNat = h := by omega
        have p20q : (0 : Int) ≤ (h : Int) := by omega
        have b20q : (h : Int) < (N : Int) := by omega
        have r20q : IntKind.i64.wrap ((h : Int)) = (h : Int) := by rw [IntKind.wrap_i64]; omega
        skip
        obtain ⟨x20, hx20⟩ : ∃ x, x = d[p - h]! := ⟨_, rfl⟩
        obtain ⟨y20, hy20⟩ : ∃ x, x = d[h]! := ⟨_, rfl⟩
        have l20a := S1.out.ld R (by omega) P (p - h) (by omega)
        have l20b := S1.out.ld R (by omega) P (h) (by omega)
        rw [← hx20] at l20a
        rw [← hy20] at l20b
        have hc20 := S1.out.cmp HC.out (by omega) x20 y20
        have hv20 : ¬ cf x20 y20 < 0 := by rw [hx20, hy20]; exact of_decide_eq_false hlv
        have hd20 : decide (cf x20 y20 < 0) = false := decide_eq_false hv20
        have HLV := Lib.hid hlv
        clear hx20 hy20 hlv
        go_wp2_with fail
        go_quiet_grown (first | (go_at_fn g; refine Calls.grown_of (hc20 _ _)))
        have SV : Aside (SWK enc k w0 blk off d (grow (wr.drewN nq) osq)) := S1.out.grown nq osq
        clear l20a l20b hc20 S1
        generalize grow (wr.drewN nq) osq = wv at SV ⊢
        clear nq osq
        go_wp2
        go_roundw
        case rel => exact ⟨h + 1, j, by go_num, rfl, by omega, by omega, by omega, SV, fun c h1 h2 => by
          rcases Nat.lt_or_ge c i with hc | hc
          · exact HI.out c h1 hc
          · exact MONO.out c h h1 (by omega) (by omega) HT.out, HJ⟩
        case measure => simp [intOf]; omega
    · have hltz : ¬ (i : Int) < (j : Int) := by omega
      have HIJ : Hid (i = j) := by show _ = _; omega
      obtain ⟨f, hf⟩ : ∃ f, f = p + 1 - i := ⟨_, rfl⟩
      have hq := HSP.out.2.1 i (by omega) (by omega)
      have hf1 : f + i ≤ n := by omega
      have hf2 : n ≤ f + i := by omega
      have hmf : m ≤ f := by omega
      have hfb : f ≤ b := by omega
      have hai : a ≤ i := by omega
      have him : i ≤ m := by omega
      have HSPL : Hid (mrg (ltOf cf) A B = mrg (ltOf cf) (A.take (i - a)) (B.take (f - m)) ++ mrg (ltOf cf) (A.drop (i - a)) (B.drop (f - m))) := by
        show _ = _
        rw [hf]
        exact mid_split HO.out d X Y A B a m b p st mid i HX.out HA.out HB.out HD.out HSA.out HSB.out HSP.out.2.1 HSP.out.2.2.1 HSP.out.2.2.2 (by omega) (by omega) HI.out (by have := HJ.out; rw [← HIJ.out] at this; exact this)
      have ef : (n : Int) - (i : Int) = (f : Int) := by omega
      clear HI HJ HIJ MONO HSP hq hf
      obtain ⟨A1, hA1⟩ : ∃ l, l = A.take (i - a) := ⟨_, rfl⟩
      obtain ⟨A2, hA2⟩ : ∃ l, l = A.drop (i - a) := ⟨_, rfl⟩
      obtain ⟨B1, hB1⟩ : ∃ l, l = B.take (f - m) := ⟨_, rfl⟩
      obtain ⟨B2, hB2⟩ : ∃ l, l = B.drop (f - m) := ⟨_, rfl⟩
      have HSA12 : Hid (Srt (ltOf cf) A1 ∧ Srt (ltOf cf) A2 ∧ Srt (ltOf cf) B1 ∧ Srt (ltOf cf) B2) := by
        rw [hA1, hA2, hB1, hB2]
        exact ⟨List.Pairwise.sublist (List.take_sublist _ _) HSA.out, List.Pairwise.sublist (List.drop_sublist _ _) HSA.out, List.Pairwise.sublist (List.take_sublist _ _) HSB.out, List.Pairwise.sublist (List.drop_sublist _ _) HSB.out⟩
      have HLN : Hid (a + A1.length = i ∧ i + A2.length = m ∧ m + B1.length = f ∧ f + B2.length = b) := by
        have := HA.out; have := HB.out
        rw [hA1, hA2, hB1, hB2]
        simp only [List.length_take, List.length_drop]
        exact ⟨by omega, by omega, by omega, by omega⟩
      have HL0 : Hid (d.toList = X ++ A1 ++ A2 ++ B1 ++ B2 ++ Y) := by
        show _ = _
        have e1 := List.take_append_drop (i - a) A
        have e2 := List.take_append_drop (f - m) B
        rw [HD.out, hA1, hA2, hB1, hB2]
        conv => lhs; rw [← e1, ← e2]
        simp only [List.append_assoc]
      rw [← hA1, ← hA2, ← hB1, ← hB2] at HSPL
      clear hA1 hA2 hB1 hB2
      have HRC : Hid (∀ W, SWK enc k w0 blk off d W → i < m → m < f → Calls P 142 #[.slice (some ⟨blk, off, none⟩) N cap, .int .i64 i, .int .i64 m, .int .i64 f, .func (.func g) #[] cb] W fun e w' => e = .returned (.tuple #[]) ∧ ∃ d', d'.size = N ∧ SWK enc k w0 blk off d' w' ∧ d'.toList = (X ++ A1) ++ B1 ++ A2 ++ (B2 ++ Y)) :=
        fun W hW h1 h2 => rotate L k aE zE enc g cb blk off cap N d0 w0 R i m f d W hs hN hW h1 h2 (by omega) hsz (X ++ A1) A2 B1 (B2 ++ Y) (by rw [List.length_append, HX.out]; exact HLN.out.1) HLN.out.2.1 HLN.out.2.2.1 (by rw [HL0.out]; simp)
      have HLC : Hid (∀ d' W, d'.size = N → SWK enc k w0 blk off d' W → d'.toList = (X ++ A1) ++ B1 ++ A2 ++ (B2 ++ Y) → a < i → i < mid → Calls P 117 #[.slice (some ⟨blk, off, none⟩) N cap, .int .i64 a, .int .i64 i, .int .i64 mid, .func (.func g) #[] cb] W fun e w' => e = .returned (.tuple #[]) ∧ ∃ d', d'.size = N ∧ SWK enc k w0 blk off d' w' ∧ d'.toList = X ++ mrg (ltOf cf) A1 B1 ++ (A2 ++ (B2 ++ Y))) :=
        fun d' W h1 hW h2 h3 h4 => IH.out a i mid d' W (by omega) h1 hW h3 h4 (by omega) X (A2 ++ (B2 ++ Y)) A1 B1 HX.out HLN.out.1 (by have := HLN.out; omega) (by rw [h2]; simp) HSA12.out.1 HSA12.out.2.2.1
      have HRT : Hid (∀ d' W, d'.size = N → SWK enc k w0 blk off d' W → d'.toList = X ++ mrg (ltOf cf) A1 B1 ++ (A2 ++ (B2 ++ Y)) → mid < f → f < b → Calls P 117 #[.slice (some ⟨blk, off, none⟩) N cap, .int .i64 mid, .int .i64 f, .int .i64 b, .func (.func g) #[] cb] W fun e w' => e = .returned (.tuple #[]) ∧ ∃ d', d'.size = N ∧ SWK enc k w0 blk off d' w' ∧ d'.toList = X ++ mrg (ltOf cf) A1 B1 ++ mrg (ltOf cf) A2 B2 ++ Y) :=
        fun d' W h1 hW h2 h3 h4 => IH.out mid f b d' W (by omega) h1 hW h3 h4 hb (X ++ mrg (ltOf cf) A1 B1) Y A2 B2 (by rw [List.length_append, HX.out, mrg_length _ _ _ (Nat.le_refl _)]; have := HLN.out; omega) (by have := HLN.out; omega) HLN.out.2.2.2 (by rw [h2]; simp) HSA12.out.2.1 HSA12.out.2.2.2
      have HFIN : Hid (∀ d' : Array α, d'.toList = X ++ mrg (ltOf cf) A1 B1 ++ mrg (ltOf cf) A2 B2 ++ Y → d'.toList = X ++ mrg (ltOf cf) A B ++ Y) := fun d' h => by rw [h, HSPL.out]; simp
      clear IH HSPL HSA12 HC
      by_cases hq0 : a < i
      · skip
        by_cases hq1 : i < m
        · skip
          by_cases hq2 : m < f
          · skip
            by_cases hq3 : f < b
            · skip
              first | (exfalso; omega) | skip
              all_goals
                go_wp2_with fail
                refine (HRC.out _ S1.out (by omega) (by omega)).mono ?_
                rintro e w2 ⟨rfl, d2, hd2, hS2, hl2⟩
                have HL2 := Lib.hid hl2
                have HS2 := Lib.hid hS2
                clear hl2 hS2
                go_wp2_with fail
                refine (HLC.out d2 _ hd2 HS2.out HL2.out (by omega) (by omega)).mono ?_
                rintro e w3 ⟨rfl, d3, hd3, hS3, hl3⟩
                have HL3 := Lib.hid hl3
                have HS3 := Lib.hid hS3
                clear hl3 hS3
                go_wp2_with fail
                refine (HRT.out d3 _ hd3 HS3.out HL3.out (by omega) (by omega)).mono ?_
                rintro e w4 ⟨rfl, d4, hd4, hS4, hl4⟩
                have HL4 := Lib.hid hl4
                have HS4 := Lib.hid hS4
                clear hl4 hS4
                go_wp2_with fail
                go_end0
                exact ⟨rfl, d4, hd4, HS4.out, by have := HFIN.out d4 HL4.out; first | exact this | simpa using this⟩
            · skip
              first | (exfalso; omega) | skip
              all_goals
                go_wp2_with fail
                refine (HRC.out _ S1.out (by omega) (by omega)).mono ?_
                rintro e w2 ⟨rfl, d2, hd2, hS2, hl2⟩
                have HL2 := Lib.hid hl2
                have HS2 := Lib.hid hS2
                clear hl2 hS2
                go_wp2_with fail
                refine (HLC.out d2 _ hd2 HS2.out HL2.out (by omega) (by omega)).mono ?_
                rintro e w3 ⟨rfl, d3, hd3, hS3, hl3⟩
                have HL3 := Lib.hid hl3
                have HS3 := Lib.hid hS3
                clear hl3 hS3
                go_wp2_with fail
                have HL4 : Hid (d3.toList = X ++ mrg (ltOf cf) A1 B1 ++ mrg (ltOf cf) A2 B2 ++ Y) := by
                  show _ = _
                  obtain rfl : B2 = [] := List.eq_nil_of_length_eq_zero (by have := HLN.out; omega)
                  rw [HL3.out, mrg_nil_right] <;> simp
                go_end0
                exact ⟨rfl, d3, hd3, HS3.out, by have := HFIN.out d3 HL4.out; first | exact this | simpa using this⟩
          · skip
            by_cases hq3 : f < b
            · skip
              first | (exfalso; omega) | skip
              all_goals
                have HL2 : Hid (d.toList = (X ++ A1) ++ B1 ++ A2 ++ (B2 ++ Y)) := by
                  show _ = _
                  obtain rfl : B1 = [] := List.eq_nil_of_length_eq_zero (by have := HLN.out; omega)
                  rw [HL0.out]; simp
                go_wp2_with fail
                have HL3 : Hid (d.toList = X ++ mrg (ltOf cf) A1 B1 ++ (A2 ++ (B2 ++ Y))) := by
                  show _ = _
                  obtain rfl : B1 = [] := List.eq_nil_of_length_eq_zero (by have := HLN.out; omega)
                  rw [HL2.out, mrg_nil_right] <;> simp
                refine (HRT.out d _ hN S1.out HL3.out (by omega) (by omega)).mono ?_
                rintro e w4 ⟨rfl, d4, hd4, hS4, hl4⟩
                have HL4 := Lib.hid hl4
                have HS4 := Lib.hid hS4
                clear hl4 hS4
                go_wp2_with fail
                go_end0
                exact ⟨rfl, d4, hd4, HS4.out, by have := HFIN.out d4 HL4.out; first | exact this | simpa using this⟩
            · skip
              first | (exfalso; omega) | skip
              all_goals
                have HL2 : Hid (d.toList = (X ++ A1) ++ B1 ++ A2 ++ (B2 ++ Y)) := by
                  show _ = _
                  obtain rfl : B1 = [] := List.eq_nil_of_length_eq_zero (by have := HLN.out; omega)
                  rw [HL0.out]; simp
                go_wp2_with fail
                have HL3 : Hid (d.toList = X ++ mrg (ltOf cf) A1 B1 ++ (A2 ++ (B2 ++ Y))) := by
                  show _ = _
                  obtain rfl : B1 = [] := List.eq_nil_of_length_eq_zero (by have := HLN.out; omega)
                  rw [HL2.out, mrg_nil_right] <;> simp
                have HL4 : Hid (d.toList = X ++ mrg (ltOf cf) A1 B1 ++ mrg (ltOf cf) A2 B2 ++ Y) := by
                  show _ = _
                  obtain rfl : B2 = [] := List.eq_nil_of_length_eq_zero (by have := HLN.out; omega)
                  rw [HL3.out, mrg_nil_right] <;> simp
                go_end0
                exact ⟨rfl, d, hN, S1.out, by have := HFIN.out d HL4.out; first | exact this | simpa using this⟩
        · skip
          by_cases hq2 : m < f
          · skip
            by_cases hq3 : f < b
            · skip
              first | (exfalso; omega) | skip
              all_goals
                have HL2 : Hid (d.toList = (X ++ A1) ++ B1 ++ A2 ++ (B2 ++ Y)) := by
                  show _ = _
                  obtain rfl : A2 = [] := List.eq_nil_of_length_eq_zero (by have := HLN.out; omega)
                  rw [HL0.out]; simp
                go_wp2_with fail
                refine (HLC.out d _ hN S1.out HL2.out (by omega) (by omega)).mono ?_
                rintro e w3 ⟨rfl, d3, hd3, hS3, hl3⟩
                have HL3 := Lib.hid hl3
                have HS3 := Lib.hid hS3
                clear hl3 hS3
                go_wp2_with fail
                have HL4 : Hid (d3.toList = X ++ mrg (ltOf cf) A1 B1 ++ mrg (ltOf cf) A2 B2 ++ Y) := by
                  show _ = _
                  obtain rfl : A2 = [] := List.eq_nil_of_length_eq_zero (by have := HLN.out; omega)
                  rw [HL3.out, mrg_nil_left] <;> simp
                go_end0
                exact ⟨rfl, d3, hd3, HS3.out, by have := HFIN.out d3 HL4.out; first | exact this | simpa using this⟩
            · skip
              first | (exfalso; omega) | skip
              all_goals
                have HL2 : Hid (d.toList = (X ++ A1) ++ B1 ++ A2 ++ (B2 ++ Y)) := by
                  show _ = _
                  obtain rfl : A2 = [] := List.eq_nil_of_length_eq_zero (by have := HLN.out; omega)
                  rw [HL0.out]; simp
                go_wp2_with fail
                refine (HLC.out d _ hN S1.out HL2.out (by omega) (by omega)).mono ?_
                rintro e w3 ⟨rfl, d3, hd3, hS3, hl3⟩
                have HL3 := Lib.hid hl3
                have HS3 := Lib.hid hS3
                clear hl3 hS3
                go_wp2_with fail
                have HL4 : Hid (d3.toList = X ++ mrg (ltOf cf) A1 B1 ++ mrg (ltOf cf) A2 B2 ++ Y) := by
                  show _ = _
                  obtain rfl : A2 = [] := List.eq_nil_of_length_eq_zero (by have := HLN.out; omega)
                  rw [HL3.out, mrg_nil_left] <;> simp
                go_end0
                exact ⟨rfl, d3, hd3, HS3.out, by have := HFIN.out d3 HL4.out; first | exact this | simpa using this⟩
          · skip
            by_cases hq3 : f < b
            · skip
              first | (exfalso; omega) | skip
              all_goals
                have HL2 : Hid (d.toList = (X ++ A1) ++ B1 ++ A2 ++ (B2 ++ Y)) := by
                  show _ = _
                  obtain rfl : A2 = [] := List.eq_nil_of_length_eq_zero (by have := HLN.out; omega)
                  rw [HL0.out]; simp
                go_wp2_with fail
                have HL3 : Hid (d.toList = X ++ mrg (ltOf cf) A1 B1 ++ (A2 ++ (B2 ++ Y))) := by
                  show _ = _
                  obtain rfl : B1 = [] := List.eq_nil_of_length_eq_zero (by have := HLN.out; omega)
                  rw [HL2.out, mrg_nil_right] <;> simp
                have HL4 : Hid (d.toList = X ++ mrg (ltOf cf) A1 B1 ++ mrg (ltOf cf) A2 B2 ++ Y) := by
                  show _ = _
                  obtain rfl : A2 = [] := List.eq_nil_of_length_eq_zero (by have := HLN.out; omega)
                  rw [HL3.out, mrg_nil_left] <;> simp
                go_end0
                exact ⟨rfl, d, hN, S1.out, by have := HFIN.out d HL4.out; first | exact this | simpa using this⟩
            · skip
              first | (exfalso; omega) | skip
              all_goals
                have HL2 : Hid (d.toList = (X ++ A1) ++ B1 ++ A2 ++ (B2 ++ Y)) := by
                  show _ = _
                  obtain rfl : A2 = [] := List.eq_nil_of_length_eq_zero (by have := HLN.out; omega)
                  rw [HL0.out]; simp
                go_wp2_with fail
                have HL3 : Hid (d.toList = X ++ mrg (ltOf cf) A1 B1 ++ (A2 ++ (B2 ++ Y))) := by
                  show _ = _
                  obtain rfl : B1 = [] := List.eq_nil_of_length_eq_zero (by have := HLN.out; omega)
                  rw [HL2.out, mrg_nil_right] <;> simp
                have HL4 : Hid (d.toList = X ++ mrg (ltOf cf) A1 B1 ++ mrg (ltOf cf) A2 B2 ++ Y) := by
                  show _ = _
                  obtain rfl : A2 = [] := List.eq_nil_of_length_eq_zero (by have := HLN.out; omega)
                  rw [HL3.out, mrg_nil_left] <;> simp
                go_end0
                exact ⟨rfl, d, hN, S1.out, by have := HFIN.out d HL4.out; first | exact this | simpa using this⟩
      · skip
        by_cases hq1 : i < m
        · skip
          by_cases hq2 : m < f
          · skip
            by_cases hq3 : f < b
            · skip
              first | (exfalso; omega) | skip
              all_goals
                go_wp2_with fail
                refine (HRC.out _ S1.out (by omega) (by omega)).mono ?_
                rintro e w2 ⟨rfl, d2, hd2, hS2, hl2⟩
                have HL2 := Lib.hid hl2
                have HS2 := Lib.hid hS2
                clear hl2 hS2
                go_wp2_with fail
                have HL3 : Hid (d2.toList = X ++ mrg (ltOf cf) A1 B1 ++ (A2 ++ (B2 ++ Y))) := by
                  show _ = _
                  obtain rfl : A1 = [] := List.eq_nil_of_length_eq_zero (by have := HLN.out; omega)
                  rw [HL2.out, mrg_nil_left] <;> simp
                refine (HRT.out d2 _ hd2 HS2.out HL3.out (by omega) (by omega)).mono ?_
                rintro e w4 ⟨rfl, d4, hd4, hS4, hl4⟩
                have HL4 := Lib.hid hl4
                have HS4 := Lib.hid hS4
                clear hl4 hS4
                go_wp2_with fail
                go_end0
                exact ⟨rfl, d4, hd4, HS4.out, by have := HFIN.out d4 HL4.out; first | exact this | simpa using this⟩
            · skip
              first | (exfalso; omega) | skip
              all_goals
                go_wp2_with fail
                refine (HRC.out _ S1.out (by omega) (by omega)).mono ?_
                rintro e w2 ⟨rfl, d2, hd2, hS2, hl2⟩
                have HL2 := Lib.hid hl2
                have HS2 := Lib.hid hS2
                clear hl2 hS2
                go_wp2_with fail
                have HL3 : Hid (d2.toList = X ++ mrg (ltOf cf) A1 B1 ++ (A2 ++ (B2 ++ Y))) := by
                  show _ = _
                  obtain rfl : A1 = [] := List.eq_nil_of_length_eq_zero (by have := HLN.out; omega)
                  rw [HL2.out, mrg_nil_left] <;> simp
                have HL4 : Hid (d2.toList = X ++ mrg (ltOf cf) A1 B1 ++ mrg (ltOf cf) A2 B2 ++ Y) := by
                  show _ = _
                  obtain rfl : B2 = [] := List.eq_nil_of_length_eq_zero (by have := HLN.out; omega)
                  rw [HL3.out, mrg_nil_right] <;> simp
                go_end0
                exact ⟨rfl, d2, hd2, HS2.out, by have := HFIN.out d2 HL4.out; first | exact this | simpa using this⟩
          · skip
            by_cases hq3 : f < b
            · skip
              first | (exfalso; omega) | skip
              all_goals
                have HL2 : Hid (d.toList = (X ++ A1) ++ B1 ++ A2 ++ (B2 ++ Y)) := by
                  show _ = _
                  obtain rfl : B1 = [] := List.eq_nil_of_length_eq_zero (by have := HLN.out; omega)
                  rw [HL0.out]; simp
                go_wp2_with fail
                have HL3 : Hid (d.toList = X ++ mrg (ltOf cf) A1 B1 ++ (A2 ++ (B2 ++ Y))) := by
                  show _ = _
                  obtain rfl : A1 = [] := List.eq_nil_of_length_eq_zero (by have := HLN.out; omega)
                  rw [HL2.out, mrg_nil_left] <;> simp
                refine (HRT.out d _ hN S1.out HL3.out (by omega) (by omega)).mono ?_
                rintro e w4 ⟨rfl, d4, hd4, hS4, hl4⟩
                have HL4 := Lib.hid hl4
                have HS4 := Lib.hid hS4
                clear hl4 hS4
                go_wp2_with fail
                go_end0
                exact ⟨rfl, d4, hd4, HS4.out, by have := HFIN.out d4 HL4.out; first | exact this | simpa using this⟩
            · skip
              first | (exfalso; omega) | skip
              all_goals
                have HL2 : Hid (d.toList = (X ++ A1) ++ B1 ++ A2 ++ (B2 ++ Y)) := by
                  show _ = _
                  obtain rfl : B1 = [] := List.eq_nil_of_length_eq_zero (by have := HLN.out; omega)
                  rw [HL0.out]; simp
                go_wp2_with fail
                have HL3 : Hid (d.toList = X ++ mrg (ltOf cf) A1 B1 ++ (A2 ++ (B2 ++ Y))) := by
                  show _ = _
                  obtain rfl : A1 = [] := List.eq_nil_of_length_eq_zero (by have := HLN.out; omega)
                  rw [HL2.out, mrg_nil_left] <;> simp
                have HL4 : Hid (d.toList = X ++ mrg (ltOf cf) A1 B1 ++ mrg (ltOf cf) A2 B2 ++ Y) := by
                  show _ = _
                  obtain rfl : B2 = [] := List.eq_nil_of_length_eq_zero (by have := HLN.out; omega)
                  rw [HL3.out, mrg_nil_right] <;> simp
                go_end0
                exact ⟨rfl, d, hN, S1.out, by have := HFIN.out d HL4.out; first | exact this | simpa using this⟩
        · skip
          by_cases hq2 : m < f
          · skip
            by_cases hq3 : f < b
            · skip
              first | (exfalso; omega) | skip
              all_goals
                have HL2 : Hid (d.toList = (X ++ A1) ++ B1 ++ A2 ++ (B2 ++ Y)) := by
                  show _ = _
                  obtain rfl : A2 = [] := List.eq_nil_of_length_eq_zero (by have := HLN.out; omega)
                  rw [HL0.out]; simp
                go_wp2_with fail
                have HL3 : Hid (d.toList = X ++ mrg (ltOf cf) A1 B1 ++ (A2 ++ (B2 ++ Y))) := by
                  show _ = _
                  obtain rfl : A1 = [] := List.eq_nil_of_length_eq_zero (by have := HLN.out; omega)
                  rw [HL2.out, mrg_nil_left] <;> simp
                have HL4 : Hid (d.toList = X ++ mrg (ltOf cf) A1 B1 ++ mrg (ltOf cf) A2 B2 ++ Y) := by
                  show _ = _
                  obtain rfl : A2 = [] := List.eq_nil_of_length_eq_zero (by have := HLN.out; omega)
                  rw [HL3.out, mrg_nil_left] <;> simp
                go_end0
                exact ⟨rfl, d, hN, S1.out, by have := HFIN.out d HL4.out; first | exact this | simpa using this⟩
            · skip
              first | (exfalso; omega) | skip
              all_goals
                have HL2 : Hid (d.toList = (X ++ A1) ++ B1 ++ A2 ++ (B2 ++ Y)) := by
                  show _ = _
                  obtain rfl : A2 = [] := List.eq_nil_of_length_eq_zero (by have := HLN.out; omega)
                  rw [HL0.out]; simp
                go_wp2_with fail
                have HL3 : Hid (d.toList = X ++ mrg (ltOf cf) A1 B1 ++ (A2 ++ (B2 ++ Y))) := by
                  show _ = _
                  obtain rfl : A1 = [] := List.eq_nil_of_length_eq_zero (by have := HLN.out; omega)
                  rw [HL2.out, mrg_nil_left] <;> simp
                have HL4 : Hid (d.toList = X ++ mrg (ltOf cf) A1 B1 ++ mrg (ltOf cf) A2 B2 ++ Y) := by
                  show _ = _
                  obtain rfl : A2 = [] := List.eq_nil_of_length_eq_zero (by have := HLN.out; omega)
                  rw [HL3.out, mrg_nil_left] <;> simp
                go_end0
                exact ⟨rfl, d, hN, S1.out, by have := HFIN.out d HL4.out; first | exact this | simpa using this⟩
          · skip
            by_cases hq3 : f < b
            · skip
              first | (exfalso; omega) | skip
              all_goals
                have HL2 : Hid (d.toList = (X ++ A1) ++ B1 ++ A2 ++ (B2 ++ Y)) := by
                  show _ = _
                  obtain rfl : A2 = [] := List.eq_nil_of_length_eq_zero (by have := HLN.out; omega)
                  rw [HL0.out]; simp
                go_wp2_with fail
                have HL3 : Hid (d.toList = X ++ mrg (ltOf cf) A1 B1 ++ (A2 ++ (B2 ++ Y))) := by
                  show _ = _
                  obtain rfl : A1 = [] := List.eq_nil_of_length_eq_zero (by have := HLN.out; omega)
                  rw [HL2.out, mrg_nil_left] <;> simp
                have HL4 : Hid (d.toList = X ++ mrg (ltOf cf) A1 B1 ++ mrg (ltOf cf) A2 B2 ++ Y) := by
                  show _ = _
                  obtain rfl : A2 = [] := List.eq_nil_of_length_eq_zero (by have := HLN.out; omega)
                  rw [HL3.out, mrg_nil_left] <;> simp
                go_end0
                exact ⟨rfl, d, hN, S1.out, by have := HFIN.out d HL4.out; first | exact this | simpa using this⟩
            · skip
              first | (exfalso; omega) | skip
              all_goals
                have HL2 : Hid (d.toList = (X ++ A1) ++ B1 ++ A2 ++ (B2 ++ Y)) := by
                  show _ = _
                  obtain rfl : A2 = [] := List.eq_nil_of_length_eq_zero (by have := HLN.out; omega)
                  rw [HL0.out]; simp
                go_wp2_with fail
                have HL3 : Hid (d.toList = X ++ mrg (ltOf cf) A1 B1 ++ (A2 ++ (B2 ++ Y))) := by
                  show _ = _
                  obtain rfl : A1 = [] := List.eq_nil_of_length_eq_zero (by have := HLN.out; omega)
                  rw [HL2.out, mrg_nil_left] <;> simp
                have HL4 : Hid (d.toList = X ++ mrg (ltOf cf) A1 B1 ++ mrg (ltOf cf) A2 B2 ++ Y) := by
                  show _ = _
                  obtain rfl : A2 = [] := List.eq_nil_of_length_eq_zero (by have := HLN.out; omega)
                  rw [HL3.out, mrg_nil_left] <;> simp
                go_end0
                exact ⟨rfl, d, hN, S1.out, by have := HFIN.out d HL4.out; first | exact this | simpa using this⟩

set_option maxHeartbeats 16000000 in
set_option maxRecDepth 1000000 in
theorem symMerge_mid2 (L : StP P) (k : Nat) (aE : ∀ w, (isAgg 43).run P w = .ok true w) (zE : ∀ w, (Go.sizeOf 43).run P w = .ok k w) (enc : α → List Value) (g : Nat) (cb : Array Value) (blk off cap N : Nat) (d0 : Array α) (w0 : World) (R : RowK enc k w0 blk off d0) (cf : α → α → Int) (hO : SWO (ltOf cf)) (eg : ∀ args w, (callFunc g args).run P w = .ok (.enter g args) w) (hcmp : CmpLays P g cb enc k cf blk off d0.size w0) (K : Nat)
    (ih : Sym P enc k w0 blk off cap N g cb cf K) (a m b mid : Nat) (d : Array α) (w : World) (hs : d0.size = N) (hK : b - a ≤ K + 1) (hN : d.size = N) (hS : SWK enc k w0 blk off d w) (ham : a + 2 ≤ m) (hmb : m + 2 ≤ b) (hb : b ≤ N) (hmid : mid = (a + b) / 2) (hcase : m ≤ mid) (hsz : N < 4611686018427387904)
    (X Y A B : List α) (hX : X.length = a) (hA : a + A.length = m) (hB : m + B.length = b) (hd : d.toList = X ++ A ++ B ++ Y) (hsA : Srt (ltOf cf) A) (hsB : Srt (ltOf cf) B) :
    Calls P 117 #[.slice (some ⟨blk, off, none⟩) N cap, .int .i64 a, .int .i64 m, .int .i64 b, .func (.func g) #[] cb] w fun e w' => e = .returned (.tuple #[]) ∧ ∃ d', d'.size = N ∧ SWK enc k w0 blk off d' w' ∧ d'.toList = X ++ mrg (ltOf cf) A B ++ Y := by
  have mixed := L.mixed; have t0 := L.t0; have a0 := L.a0; have z0 := L.z0; have v0 := L.v0; have t1 := L.t1; have a1 := L.a1; have z1 := L.z1; have v1 := L.v1; have t2 := L.t2; have a2 := L.a2; have z2 := L.z2; have v2 := L.v2; have t3 := L.t3; have a3 := L.a3; have z3 := L.z3; have v3 := L.v3; have t4 := L.t4; have a4 := L.a4; have z4 := L.z4; have v4 := L.v4; have t5 := L.t5; have a5 := L.a5; have z5 := L.z5; have v5 := L.v5
  have erot : ∀ args w, (callFunc 142 args).run P w = .ok (.enter 142 args) w := enters_of L.frot (by kernel_rfl) rfl
  have esym : ∀ args w, (callFunc 117 args).run P w = .ok (.enter 117 args) w := enters_of L.fsym (by kernel_rfl) rfl
  have S0 : Aside (SWK enc k w0 blk off d w) := hS
  have HC : Aside _ := hcmp
  have IH := Lib.hid ih
  have HD : Hid (d.toList = X ++ A ++ B ++ Y) := hd
  have HX := Lib.hid hX
  have HA := Lib.hid hA
  have HB := Lib.hid hB
  have HSA := Lib.hid hsA
  have HSB := Lib.hid hsB
  have HO := Lib.hid hO
  obtain ⟨n, hn⟩ : ∃ n, n = mid + m := ⟨_, rfl⟩
  obtain ⟨p, hp⟩ : ∃ p, p = n - 1 := ⟨_, rfl⟩
  skip
  have HSP : Hid ((∀ c, a ≤ c → c < m → a ≤ c ∧ c < m ∧ m ≤ p - c ∧ p - c < b) ∧ (∀ s, a ≤ s → s ≤ m → s ≤ p + 1 ∧ a ≤ s ∧ s ≤ m ∧ m ≤ p + 1 - s ∧ p + 1 - s ≤ b) ∧ (∀ s, a = s → s = a ∨ p + 1 - s = b) ∧ (∀ s, m = s → s = m ∨ p + 1 - s = m)) :=
    ⟨fun c h1 h2 => ⟨by omega, by omega, by omega, by omega⟩, fun s h1 h2 => ⟨by omega, by omega, by omega, by omega, by omega⟩, fun s h1 => by omega, fun s h1 => by omega⟩
  have MONO : Hid (∀ c' c, a ≤ c' → c' ≤ c → c < m → (!ltOf cf d[p - c]! d[c]!) = true → (!ltOf cf d[p - c']! d[c']!) = true) := mono_mid hO d X Y A B a m b p a m hX hA hB hd hsA hsB HSP.out.1
  have hpn1 : p + 1 ≤ mid + m := by omega
  have hpn2 : mid + m ≤ p + 1 := by omega
  have hm1 : 2 * mid ≤ a + b := by omega
  have hm2 : a + b ≤ 2 * mid + 1 := by omega
  skip
  skip
  have emid : ((a : Int) + (b : Int)) / 2 = (mid : Int) := by omega
  have en : (mid : Int) + (m : Int) = (n : Int) := by omega
  have ep : (n : Int) - 1 = (p : Int) := by omega
  have hn1 : n ≤ p + 1 := by omega
  have hn2 : p + 1 ≤ n := by omega
  skip
  have hcb : decide (mid < m) = false := decide_eq_false (by omega)
  have hmidb : mid < b := by omega
  have hamid : a < mid := by omega
  have h1 : ((m : Int) - (a : Int) == 1) = false := by rw [beq_eq_false_iff_ne]; omega
  have h2 : ((b : Int) - (m : Int) == 1) = false := by rw [beq_eq_false_iff_ne]; omega
  clear hS hcmp hd hX hA hB hsA hsB hO ih hn hp hmid
  go_enter L.fsym, Tryz.ntmps117
  go_wp2_with fail
  go_loopw [20, 21] (fun vi vj wr => ∃ (i j : Nat), vi = .int .i64 i ∧ vj = .int .i64 j ∧ a ≤ i ∧ i ≤ j ∧ j ≤ m ∧ Aside (SWK enc k w0 blk off d wr) ∧
      Hid (∀ c, a ≤ c → c < i → (!ltOf cf d[p - c]! d[c]!) = true) ∧ Hid (∀ c, j ≤ c → c < m → (!ltOf cf d[p - c]! d[c]!) = false)) (fun vi vj _ => (intOf vj).toNat - (intOf vi).toNat)
  case atStart => exact ⟨a, m, rfl, rfl, by omega, by omega, by omega, S0, fun c h1 h2 => by omega, fun c h1 h2 => by omega⟩
  case round =>
    clear S0
    obtain ⟨i, j, rfl, rfl, hli, hij, hjh, S1, HI, HJ⟩ := hrel
    by_cases hlt : i < j
    · have hltz : (i : Int) < (j : Int) := by omega
      obtain ⟨h, hh1, hh2, hh⟩ : ∃ h : Nat, i ≤ h ∧ h < j ∧ h = (i + j) / 2 := ⟨(i + j) / 2, by omega, by omega, rfl⟩
      have ez : ((i : Int) + (j : Int)) / 2 = (h : Int) := by omega
      clear hh
      cases hlv : ltOf cf d[p - h]! d[h]! with
      | true =>
        have HT : Hid ((!ltOf cf d[p - h]! d[h]!) = false) := by show _ = _; rw [hlv]; rfl
        have e20p : ((p : Int) - (h : Int)).toNat = p - h := by omega
        have p20p : (0 : Int) ≤ (p : Int) - (h : Int) := by omega
        have b20p : (p : Int) - (h : Int) < (N : Int) := by omega
        have r20p : IntKind.i64.wrap ((p : Int) - (h : Int)) = (p : Int) - (h : Int) := by rw [IntKind.wrap_i64]; omega
        have q20p : h ≤ p := by omega
        have e20q : ((h : Int)).toNat = h := by omega
        have p20q : (0 : Int) ≤ (h : Int) := by omega
        have b20q : (h : Int) < (N : Int) := by omega
        have r20q : IntKind.i64.wrap ((h : Int)) = (h : Int) := by rw [IntKind.wrap_i64]; omega
        skip
        obtain ⟨x20, hx20⟩ : ∃ x, x = d[p - h]! := ⟨_, rfl⟩
        obtain ⟨y20, hy20⟩ : ∃ x, x = d[h]! := ⟨_, rfl⟩
        have l20a := S1.out.ld R (by omega) P (p - h) (by omega)
        have l20b := S1.out.ld R (by omega) P (h) (by omega)
        rw [← hx20] at l20a
        rw [← hy20] at l20b
        have hc20 := S1.out.cmp HC.out (by omega) x20 y20
        have hv20 : cf x20 y20 < 0 := by rw [hx20, hy20]; exact of_decide_eq_true hlv
        have hd20 : decide (cf x20 y20 < 0) = true := decide_eq_true hv20
        have HLV := Lib.hid hlv
        clear hx20 hy20 hlv
        go_wp2_with fail
        go_quiet_grown (first | (go_at_fn g; refine Calls.grown_of (hc20 _ _)))
        have SV : Aside (SWK enc k w0 blk off d (grow (wr.drewN nq) osq)) := S1.out.grown nq osq
        clear l20a l20b hc20 S1
        generalize grow (wr.drewN nq) osq = wv at SV ⊢
        clear nq osq
        go_wp2
        go_roundw
        case rel => exact ⟨i, h, rfl, by go_num, by omega, by omega, by omega, SV, HI, fun c h1 h2 => by
          cases hT : (!ltOf cf d[p - c]! d[c]!) with
          | false => rfl
          | true => exact absurd (MONO.out h c (by omega) h1 (by omega) hT) (by rw [HT.out]; decide)⟩
        case measure => simp [intOf]; omega
      | false =>
        have HT : Hid ((!ltOf cf d[p - h]! d[h]!) = true) := by show _ = _; rw [hlv]; rfl
        have e20p : ((p : Int) - (h : Int)).toNat = p - h := by omega
        have p20p : (0 : Int) ≤ (p : Int) - (h : Int) := by omega
        have b20p : (p : Int) - (h : Int) < (N : Int) := by omega
        have r20p : IntKind.i64.wrap ((p : Int) - (h : Int)) = (p : Int) - (h : Int) := by rw [IntKind.wrap_i64]; omega
        have q20p : h ≤ p := by omega
        have e20q : ((h : Int)).toNat = h := by omega
        have p20q : (0 : Int) ≤ (h : Int) := by omega
        have b20q : (h : Int) < (N : Int) := by omega
        have r20q : IntKind.i64.wrap ((h : Int)) = (h : Int) := by rw [IntKind.wrap_i64]; omega
        skip
        obtain ⟨x20, hx20⟩ : ∃ x, x = d[p - h]! := ⟨_, rfl⟩
        obtain ⟨y20, hy20⟩ : ∃ x, x = d[h]! := ⟨_, rfl⟩
        have l20a := S1.out.ld R (by omega) P (p - h) (by omega)
        have l20b := S1.out.ld R (by omega) P (h) (by omega)
        rw [← hx20] at l20a
        rw [← hy20] at l20b
        have hc20 := S1.out.cmp HC.out (by omega) x20 y20
        have hv20 : ¬ cf x20 y20 < 0 := by rw [hx20, hy20]; exact of_decide_eq_false hlv
        have hd20 : decide (cf x20 y20 < 0) = false := decide_eq_false hv20
        have HLV := Lib.hid hlv
        clear hx20 hy20 hlv
        go_wp2_with fail
        go_quiet_grown (first | (go_at_fn g; refine Calls.grown_of (hc20 _ _)))
        have SV : Aside (SWK enc k w0 blk off d (grow (wr.drewN nq) osq)) := S1.out.grown nq osq
        clear l20a l20b hc20 S1
        generalize grow (wr.drewN nq) osq = wv at SV ⊢
        clear nq osq
        go_wp2
        go_roundw
        case rel => exact ⟨h + 1, j, by go_num, rfl, by omega, by omega, by omega, SV, fun c h1 h2 => by
          rcases Nat.lt_or_ge c i with hc | hc
          · exact HI.out c h1 hc
          · exact MONO.out c h h1 (by omega) (by omega) HT.out, HJ⟩
        case measure => simp [intOf]; omega
    · have hltz : ¬ (i : Int) < (j : Int) := by omega
      have HIJ : Hid (i = j) := by show _ = _; omega
      obtain ⟨f, hf⟩ : ∃ f, f = p + 1 - i := ⟨_, rfl⟩
      have hq := HSP.out.2.1 i (by omega) (by omega)
      have hf1 : f + i ≤ n := by omega
      have hf2 : n ≤ f + i := by omega
      have hmf : m ≤ f := by omega
      have hfb : f ≤ b := by omega
      have hai : a ≤ i := by omega
      have him : i ≤ m := by omega
      have HSPL : Hid (mrg (ltOf cf) A B = mrg (ltOf cf) (A.take (i - a)) (B.take (f - m)) ++ mrg (ltOf cf) (A.drop (i - a)) (B.drop (f - m))) := by
        show _ = _
        rw [hf]
        exact mid_split HO.out d X Y A B a m b p a m i HX.out HA.out HB.out HD.out HSA.out HSB.out HSP.out.2.1 HSP.out.2.2.1 HSP.out.2.2.2 (by omega) (by omega) HI.out (by have := HJ.out; rw [← HIJ.out] at this; exact this)
      have ef : (n : Int) - (i : Int) = (f : Int) := by omega
      clear HI HJ HIJ MONO HSP hq hf
      obtain ⟨A1, hA1⟩ : ∃ l, l = A.take (i - a) := ⟨_, rfl⟩
      obtain ⟨A2, hA2⟩ : ∃ l, l = A.drop (i - a) := ⟨_, rfl⟩
      obtain ⟨B1, hB1⟩ : ∃ l, l = B.take (f - m) := ⟨_, rfl⟩
      obtain ⟨B2, hB2⟩ : ∃ l, l = B.drop (f - m) := ⟨_, rfl⟩
      have HSA12 : Hid (Srt (ltOf cf) A1 ∧ Srt (ltOf cf) A2 ∧ Srt (ltOf cf) B1 ∧ Srt (ltOf cf) B2) := by
        rw [hA1, hA2, hB1, hB2]
        exact ⟨List.Pairwise.sublist (List.take_sublist _ _) HSA.out, List.Pairwise.sublist (List.drop_sublist _ _) HSA.out, List.Pairwise.sublist (List.take_sublist _ _) HSB.out, List.Pairwise.sublist (List.drop_sublist _ _) HSB.out⟩
      have HLN : Hid (a + A1.length = i ∧ i + A2.length = m ∧ m + B1.length = f ∧ f + B2.length = b) := by
        have := HA.out; have := HB.out
        rw [hA1, hA2, hB1, hB2]
        simp only [List.length_take, List.length_drop]
        exact ⟨by omega, by omega, by omega, by omega⟩
      have HL0 : Hid (d.toList = X ++ A1 ++ A2 ++ B1 ++ B2 ++ Y) := by
        show _ = _
        have e1 := List.take_append_drop (i - a) A
        have e2 := List.take_append_drop (f - m) B
        rw [HD.out, hA1, hA2, hB1, hB2]
        conv => lhs; rw [← e1, ← e2]
        simp only [List.append_assoc]
      rw [← hA1, ← hA2, ← hB1, ← hB2] at HSPL
      clear hA1 hA2 hB1 hB2
      have HRC : Hid (∀ W, SWK enc k w0 blk off d W → i < m → m < f → Calls P 142 #[.slice (some ⟨blk, off, none⟩) N cap, .int .i64 i, .int .i64 m, .int .i64 f, .func (.func g) #[] cb] W fun e w' => e = .returned (.tuple #[]) ∧ ∃ d', d'.size = N ∧ SWK enc k w0 blk off d' w' ∧ d'.toList = (X ++ A1) ++ B1 ++ A2 ++ (B2 ++ Y)) :=
        fun W hW h1 h2 => rotate L k aE zE enc g cb blk off cap N d0 w0 R i m f d W hs hN hW h1 h2 (by omega) hsz (X ++ A1) A2 B1 (B2 ++ Y) (by rw [List.length_append, HX.out]; exact HLN.out.1) HLN.out.2.1 HLN.out.2.2.1 (by rw [HL0.out]; simp)
      have HLC : Hid (∀ d' W, d'.size = N → SWK enc k w0 blk off d' W → d'.toList = (X ++ A1) ++ B1 ++ A2 ++ (B2 ++ Y) → a < i → i < mid → Calls P 117 #[.slice (some ⟨blk, off, none⟩) N cap, .int .i64 a, .int .i64 i, .int .i64 mid, .func (.func g) #[] cb] W fun e w' => e = .returned (.tuple #[]) ∧ ∃ d', d'.size = N ∧ SWK enc k w0 blk off d' w' ∧ d'.toList = X ++ mrg (ltOf cf) A1 B1 ++ (A2 ++ (B2 ++ Y))) :=
        fun d' W h1 hW h2 h3 h4 => IH.out a i mid d' W (by omega) h1 hW h3 h4 (by omega) X (A2 ++ (B2 ++ Y)) A1 B1 HX.out HLN.out.1 (by have := HLN.out; omega) (by rw [h2]; simp) HSA12.out.1 HSA12.out.2.2.1
      have HRT : Hid (∀ d' W, d'.size = N → SWK enc k w0 blk off d' W → d'.toList = X ++ mrg (ltOf cf) A1 B1 ++ (A2 ++ (B2 ++ Y)) → mid < f → f < b → Calls P 117 #[.slice (some ⟨blk, off, none⟩) N cap, .int .i64 mid, .int .i64 f, .int .i64 b, .func (.func g) #[] cb] W fun e w' => e = .returned (.tuple #[]) ∧ ∃ d', d'.size = N ∧ SWK enc k w0 blk off d' w' ∧ d'.toList = X ++ mrg (ltOf cf) A1 B1 ++ mrg (ltOf cf) A2 B2 ++ Y) :=
        fun d' W h1 hW h2 h3 h4 => IH.out mid f b d' W (by omega) h1 hW h3 h4 hb (X ++ mrg (ltOf cf) A1 B1) Y A2 B2 (by rw [List.length_append, HX.out, mrg_length _ _ _ (Nat.le_refl _)]; have := HLN.out; omega) (by have := HLN.out; omega) HLN.out.2.2.2 (by rw [h2]; simp) HSA12.out.2.1 HSA12.out.2.2.2
      have HFIN : Hid (∀ d' : Array α, d'.toList = X ++ mrg (ltOf cf) A1 B1 ++ mrg (ltOf cf) A2 B2 ++ Y → d'.toList = X ++ mrg (ltOf cf) A B ++ Y) := fun d' h => by rw [h, HSPL.out]; simp
      clear IH HSPL HSA12 HC
      by_cases hq0 : a < i
      · skip
        by_cases hq1 : i < m
        · skip
          by_cases hq2 : m < f
          · skip
            by_cases hq3 : f < b
            · skip
              first | (exfalso; omega) | skip
              all_goals
                go_wp2_with fail
                refine (HRC.out _ S1.out (by omega) (by omega)).mono ?_
                rintro e w2 ⟨rfl, d2, hd2, hS2, hl2⟩
                have HL2 := Lib.hid hl2
                have HS2 := Lib.hid hS2
                clear hl2 hS2
                go_wp2_with fail
                refine (HLC.out d2 _ hd2 HS2.out HL2.out (by omega) (by omega)).mono ?_
                rintro e w3 ⟨rfl, d3, hd3, hS3, hl3⟩
                have HL3 := Lib.hid hl3
                have HS3 := Lib.hid hS3
                clear hl3 hS3
                go_wp2_with fail
                refine (HRT.out d3 _ hd3 HS3.out HL3.out (by omega) (by omega)).mono ?_
                rintro e w4 ⟨rfl, d4, hd4, hS4, hl4⟩
                have HL4 := Lib.hid hl4
                have HS4 := Lib.hid hS4
                clear hl4 hS4
                go_wp2_with fail
                go_end0
                exact ⟨rfl, d4, hd4, HS4.out, by have := HFIN.out d4 HL4.out; first | exact this | simpa using this⟩
            · skip
              first | (exfalso; omega) | skip
              all_goals
                go_wp2_with fail
                refine (HRC.out _ S1.out (by omega) (by omega)).mono ?_
                rintro e w2 ⟨rfl, d2, hd2, hS2, hl2⟩
                have HL2 := Lib.hid hl2
                have HS2 := Lib.hid hS2
                clear hl2 hS2
                go_wp2_with fail
                refine (HLC.out d2 _ hd2 HS2.out HL2.out (by omega) (by omega)).mono ?_
                rintro e w3 ⟨rfl, d3, hd3, hS3, hl3⟩
                have HL3 := Lib.hid hl3
                have HS3 := Lib.hid hS3
                clear hl3 hS3
                go_wp2_with fail
                have HL4 : Hid (d3.toList = X ++ mrg (ltOf cf) A1 B1 ++ mrg (ltOf cf) A2 B2 ++ Y) := by
                  show _ = _
                  obtain rfl : B2 = [] := List.eq_nil_of_length_eq_zero (by have := HLN.out; omega)
                  rw [HL3.out, mrg_nil_right] <;> simp
                go_end0
                exact ⟨rfl, d3, hd3, HS3.out, by have := HFIN.out d3 HL4.out; first | exact this | simpa using this⟩
          · skip
            by_cases hq3 : f < b
            · skip
              first | (exfalso; omega) | skip
              all_goals
                have HL2 : Hid (d.toList = (X ++ A1) ++ B1 ++ A2 ++ (B2 ++ Y)) := by
                  show _ = _
                  obtain rfl : B1 = [] := List.eq_nil_of_length_eq_zero (by have := HLN.out; omega)
                  rw [HL0.out]; simp
                go_wp2_with fail
                have HL3 : Hid (d.toList = X ++ mrg (ltOf cf) A1 B1 ++ (A2 ++ (B2 ++ Y))) := by
                  show _ = _
                  obtain rfl : B1 = [] := List.eq_nil_of_length_eq_zero (by have := HLN.out; omega)
                  rw [HL2.out, mrg_nil_right] <;> simp
                refine (HRT.out d _ hN S1.out HL3.out (by omega) (by omega)).mono ?_
                rintro e w4 ⟨rfl, d4, hd4, hS4, hl4⟩
                have HL4 := Lib.hid hl4
                have HS4 := Lib.hid hS4
                clear hl4 hS4
                go_wp2_with fail
                go_end0
                exact ⟨rfl, d4, hd4, HS4.out, by have := HFIN.out d4 HL4.out; first | exact this | simpa using this⟩
            · skip
              first | (exfalso; omega) | skip
              all_goals
                have HL2 : Hid (d.toList = (X ++ A1) ++ B1 ++ A2 ++ (B2 ++ Y)) := by
                  show _ = _
                  obtain rfl : B1 = [] := List.eq_nil_of_length_eq_zero (by have := HLN.out; omega)
                  rw [HL0.out]; simp
                go_wp2_with fail
                have HL3 : Hid (d.toList = X ++ mrg (ltOf cf) A1 B1 ++ (A2 ++ (B2 ++ Y))) := by
                  show _ = _
                  obtain rfl : B1 = [] := List.eq_nil_of_length_eq_zero (by have := HLN.out; omega)
                  rw [HL2.out, mrg_nil_right] <;> simp
                have HL4 : Hid (d.toList = X ++ mrg (ltOf cf) A1 B1 ++ mrg (ltOf cf) A2 B2 ++ Y) := by
                  show _ = _
                  obtain rfl : B2 = [] := List.eq_nil_of_length_eq_zero (by have := HLN.out; omega)
                  rw [HL3.out, mrg_nil_right] <;> simp
                go_end0
                exact ⟨rfl, d, hN, S1.out, by have := HFIN.out d HL4.out; first | exact this | simpa using this⟩
        · skip
          by_cases hq2 : m < f
          · skip
            by_cases hq3 : f < b
            · skip
              first | (exfalso; omega) | skip
              all_goals
                have HL2 : Hid (d.toList = (X ++ A1) ++ B1 ++ A2 ++ (B2 ++ Y)) := by
                  show _ = _
                  obtain rfl : A2 = [] := List.eq_nil_of_length_eq_zero (by have := HLN.out; omega)
                  rw [HL0.out]; simp
                go_wp2_with fail
                refine (HLC.out d _ hN S1.out HL2.out (by omega) (by omega)).mono ?_
                rintro e w3 ⟨rfl, d3, hd3, hS3, hl3⟩
                have HL3 := Lib.hid hl3
                have HS3 := Lib.hid hS3
                clear hl3 hS3
                go_wp2_with fail
                have HL4 : Hid (d3.toList = X ++ mrg (ltOf cf) A1 B1 ++ mrg (ltOf cf) A2 B2 ++ Y) := by
                  show _ = _
                  obtain rfl : A2 = [] := List.eq_nil_of_length_eq_zero (by have := HLN.out; omega)
                  rw [HL3.out, mrg_nil_left] <;> simp
                go_end0
                exact ⟨rfl, d3, hd3, HS3.out, by have := HFIN.out d3 HL4.out; first | exact this | simpa using this⟩
            · skip
              first | (exfalso; omega) | skip
              all_goals
                have HL2 : Hid (d.toList = (X ++ A1) ++ B1 ++ A2 ++ (B2 ++ Y)) := by
                  show _ = _
                  obtain rfl : A2 = [] := List.eq_nil_of_length_eq_zero (by have := HLN.out; omega)
                  rw [HL0.out]; simp
                go_wp2_with fail
                refine (HLC.out d _ hN S1.out HL2.out (by omega) (by omega)).mono ?_
                rintro e w3 ⟨rfl, d3, hd3, hS3, hl3⟩
                have HL3 := Lib.hid hl3
                have HS3 := Lib.hid hS3
                clear hl3 hS3
                go_wp2_with fail
                have HL4 : Hid (d3.toList = X ++ mrg (ltOf cf) A1 B1 ++ mrg (ltOf cf) A2 B2 ++ Y) := by
                  show _ = _
                  obtain rfl : A2 = [] := List.eq_nil_of_length_eq_zero (by have := HLN.out; omega)
                  rw [HL3.out, mrg_nil_left] <;> simp
                go_end0
                exact ⟨rfl, d3, hd3, HS3.out, by have := HFIN.out d3 HL4.out; first | exact this | simpa using this⟩
          · skip
            by_cases hq3 : f < b
            · skip
              first | (exfalso; omega) | skip
              all_goals
                have HL2 : Hid (d.toList = (X ++ A1) ++ B1 ++ A2 ++ (B2 ++ Y)) := by
                  show _ = _
                  obtain rfl : A2 = [] := List.eq_nil_of_length_eq_zero (by have := HLN.out; omega)
                  rw [HL0.out]; simp
                go_wp2_with fail
                have HL3 : Hid (d.toList = X ++ mrg (ltOf cf) A1 B1 ++ (A2 ++ (B2 ++ Y))) := by
                  show _ = _
                  obtain rfl : B1 = [] := List.eq_nil_of_length_eq_zero (by have := HLN.out; omega)
                  rw [HL2.out, mrg_nil_right] <;> simp
                have HL4 : Hid (d.toList = X ++ mrg (ltOf cf) A1 B1 ++ mrg (ltOf cf) A2 B2 ++ Y) := by
                  show _ = _
                  obtain rfl : A2 = [] := List.eq_nil_of_length_eq_zero (by have := HLN.out; omega)
                  rw [HL3.out, mrg_nil_left] <;> simp
                go_end0
                exact ⟨rfl, d, hN, S1.out, by have := HFIN.out d HL4.out; first | exact this | simpa using this⟩
            · skip
              first | (exfalso; omega) | skip
              all_goals
                have HL2 : Hid (d.toList = (X ++ A1) ++ B1 ++ A2 ++ (B2 ++ Y)) := by
                  show _ = _
                  obtain rfl : A2 = [] := List.eq_nil_of_length_eq_zero (by have := HLN.out; omega)
                  rw [HL0.out]; simp
                go_wp2_with fail
                have HL3 : Hid (d.toList = X ++ mrg (ltOf cf) A1 B1 ++ (A2 ++ (B2 ++ Y))) := by
                  show _ = _
                  obtain rfl : B1 = [] := List.eq_nil_of_length_eq_zero (by have := HLN.out; omega)
                  rw [HL2.out, mrg_nil_right] <;> simp
                have HL4 : Hid (d.toList = X ++ mrg (ltOf cf) A1 B1 ++ mrg (ltOf cf) A2 B2 ++ Y) := by
                  show _ = _
                  obtain rfl : A2 = [] := List.eq_nil_of_length_eq_zero (by have := HLN.out; omega)
                  rw [HL3.out, mrg_nil_left] <;> simp
                go_end0
                exact ⟨rfl, d, hN, S1.out, by have := HFIN.out d HL4.out; first | exact this | simpa using this⟩
      · skip
        by_cases hq1 : i < m
        · skip
          by_cases hq2 : m < f
          · skip
            by_cases hq3 : f < b
            · skip
              first | (exfalso; omega) | skip
              all_goals
                go_wp2_with fail
                refine (HRC.out _ S1.out (by omega) (by omega)).mono ?_
                rintro e w2 ⟨rfl, d2, hd2, hS2, hl2⟩
                have HL2 := Lib.hid hl2
                have HS2 := Lib.hid hS2
                clear hl2 hS2
                go_wp2_with fail
                have HL3 : Hid (d2.toList = X ++ mrg (ltOf cf) A1 B1 ++ (A2 ++ (B2 ++ Y))) := by
                  show _ = _
                  obtain rfl : A1 = [] := List.eq_nil_of_length_eq_zero (by have := HLN.out; omega)
                  rw [HL2.out, mrg_nil_left] <;> simp
                refine (HRT.out d2 _ hd2 HS2.out HL3.out (by omega) (by omega)).mono ?_
                rintro e w4 ⟨rfl, d4, hd4, hS4, hl4⟩
                have HL4 := Lib.hid hl4
                have HS4 := Lib.hid hS4
                clear hl4 hS4
                go_wp2_with fail
                go_end0
                exact ⟨rfl, d4, hd4, HS4.out, by have := HFIN.out d4 HL4.out; first | exact this | simpa using this⟩
            · skip
              first | (exfalso; omega) | skip
              all_goals
                go_wp2_with fail
                refine (HRC.out _ S1.out (by omega) (by omega)).mono ?_
                rintro e w2 ⟨rfl, d2, hd2, hS2, hl2⟩
                have HL2 := Lib.hid hl2
                have HS2 := Lib.hid hS2
                clear hl2 hS2
                go_wp2_with fail
                have HL3 : Hid (d2.toList = X ++ mrg (ltOf cf) A1 B1 ++ (A2 ++ (B2 ++ Y))) := by
                  show _ = _
                  obtain rfl : A1 = [] := List.eq_nil_of_length_eq_zero (by have := HLN.out; omega)
                  rw [HL2.out, mrg_nil_left] <;> simp
                have HL4 : Hid (d2.toList = X ++ mrg (ltOf cf) A1 B1 ++ mrg (ltOf cf) A2 B2 ++ Y) := by
                  show _ = _
                  obtain rfl : B2 = [] := List.eq_nil_of_length_eq_zero (by have := HLN.out; omega)
                  rw [HL3.out, mrg_nil_right] <;> simp
                go_end0
                exact ⟨rfl, d2, hd2, HS2.out, by have := HFIN.out d2 HL4.out; first | exact this | simpa using this⟩
          · skip
            by_cases hq3 : f < b
            · skip
              first | (exfalso; omega) | skip
              all_goals
                have HL2 : Hid (d.toList = (X ++ A1) ++ B1 ++ A2 ++ (B2 ++ Y)) := by
                  show _ = _
                  obtain rfl : B1 = [] := List.eq_nil_of_length_eq_zero (by have := HLN.out; omega)
                  rw [HL0.out]; simp
                go_wp2_with fail
                have HL3 : Hid (d.toList = X ++ mrg (ltOf cf) A1 B1 ++ (A2 ++ (B2 ++ Y))) := by
                  show _ = _
                  obtain rfl : A1 = [] := List.eq_nil_of_length_eq_zero (by have := HLN.out; omega)
                  rw [HL2.out, mrg_nil_left] <;> simp
                refine (HRT.out d _ hN S1.out HL3.out (by omega) (by omega)).mono ?_
                rintro e w4 ⟨rfl, d4, hd4, hS4, hl4⟩
                have HL4 := Lib.hid hl4
                have HS4 := Lib.hid hS4
                clear hl4 hS4
                go_wp2_with fail
                go_end0
                exact ⟨rfl, d4, hd4, HS4.out, by have := HFIN.out d4 HL4.out; first | exact this | simpa using this⟩
            · skip
              first | (exfalso; omega) | skip
              all_goals
                have HL2 : Hid (d.toList = (X ++ A1) ++ B1 ++ A2 ++ (B2 ++ Y)) := by
                  show _ = _
                  obtain rfl : B1 = [] := List.eq_nil_of_length_eq_zero (by have := HLN.out; omega)
                  rw [HL0.out]; simp
                go_wp2_with fail
                have HL3 : Hid (d.toList = X ++ mrg (ltOf cf) A1 B1 ++ (A2 ++ (B2 ++ Y))) := by
                  show _ = _
                  obtain rfl : A1 = [] := List.eq_nil_of_length_eq_zero (by have := HLN.out; omega)
                  rw [HL2.out, mrg_nil_left] <;> simp
                have HL4 : Hid (d.toList = X ++ mrg (ltOf cf) A1 B1 ++ mrg (ltOf cf) A2 B2 ++ Y) := by
                  show _ = _
                  obtain rfl : B2 = [] := List.eq_nil_of_length_eq_zero (by have := HLN.out; omega)
                  rw [HL3.out, mrg_nil_right] <;> simp
                go_end0
                exact ⟨rfl, d, hN, S1.out, by have := HFIN.out d HL4.out; first | exact this | simpa using this⟩
        · skip
          by_cases hq2 : m < f
          · skip
            by_cases hq3 : f < b
            · skip
              first | (exfalso; omega) | skip
              all_goals
                have HL2 : Hid (d.toList = (X ++ A1) ++ B1 ++ A2 ++ (B2 ++ Y)) := by
                  show _ = _
                  obtain rfl : A2 = [] := List.eq_nil_of_length_eq_zero (by have := HLN.out; omega)
                  rw [HL0.out]; simp
                go_wp2_with fail
                have HL3 : Hid (d.toList = X ++ mrg (ltOf cf) A1 B1 ++ (A2 ++ (B2 ++ Y))) := by
                  show _ = _
                  obtain rfl : A1 = [] := List.eq_nil_of_length_eq_zero (by have := HLN.out; omega)
                  rw [HL2.out, mrg_nil_left] <;> simp
                have HL4 : Hid (d.toList = X ++ mrg (ltOf cf) A1 B1 ++ mrg (ltOf cf) A2 B2 ++ Y) := by
                  show _ = _
                  obtain rfl : A2 = [] := List.eq_nil_of_length_eq_zero (by have := HLN.out; omega)
                  rw [HL3.out, mrg_nil_left] <;> simp
                go_end0
                exact ⟨rfl, d, hN, S1.out, by have := HFIN.out d HL4.out; first | exact this | simpa using this⟩
            · skip
              first | (exfalso; omega) | skip
              all_goals
                have HL2 : Hid (d.toList = (X ++ A1) ++ B1 ++ A2 ++ (B2 ++ Y)) := by
                  show _ = _
                  obtain rfl : A2 = [] := List.eq_nil_of_length_eq_zero (by have := HLN.out; omega)
                  rw [HL0.out]; simp
                go_wp2_with fail
                have HL3 : Hid (d.toList = X ++ mrg (ltOf cf) A1 B1 ++ (A2 ++ (B2 ++ Y))) := by
                  show _ = _
                  obtain rfl : A1 = [] := List.eq_nil_of_length_eq_zero (by have := HLN.out; omega)
                  rw [HL2.out, mrg_nil_left] <;> simp
                have HL4 : Hid (d.toList = X ++ mrg (ltOf cf) A1 B1 ++ mrg (ltOf cf) A2 B2 ++ Y) := by
                  show _ = _
                  obtain rfl : A2 = [] := List.eq_nil_of_length_eq_zero (by have := HLN.out; omega)
                  rw [HL3.out, mrg_nil_left] <;> simp
                go_end0
                exact ⟨rfl, d, hN, S1.out, by have := HFIN.out d HL4.out; first | exact this | simpa using this⟩
          · skip
            by_cases hq3 : f < b
            · skip
              first | (exfalso; omega) | skip
              all_goals
                have HL2 : Hid (d.toList = (X ++ A1) ++ B1 ++ A2 ++ (B2 ++ Y)) := by
                  show _ = _
                  obtain rfl : A2 = [] := List.eq_nil_of_length_eq_zero (by have := HLN.out; omega)
                  rw [HL0.out]; simp
                go_wp2_with fail
                have HL3 : Hid (d.toList = X ++ mrg (ltOf cf) A1 B1 ++ (A2 ++ (B2 ++ Y))) := by
                  show _ = _
                  obtain rfl : A1 = [] := List.eq_nil_of_length_eq_zero (by have := HLN.out; omega)
                  rw [HL2.out, mrg_nil_left] <;> simp
                have HL4 : Hid (d.toList = X ++ mrg (ltOf cf) A1 B1 ++ mrg (ltOf cf) A2 B2 ++ Y) := by
                  show _ = _
                  obtain rfl : A2 = [] := List.eq_nil_of_length_eq_zero (by have := HLN.out; omega)
                  rw [HL3.out, mrg_nil_left] <;> simp
                go_end0
                exact ⟨rfl, d, hN, S1.out, by have := HFIN.out d HL4.out; first | exact this | simpa using this⟩
            · skip
              first | (exfalso; omega) | skip
              all_goals
                have HL2 : Hid (d.toList = (X ++ A1) ++ B1 ++ A2 ++ (B2 ++ Y)) := by
                  show _ = _
                  obtain rfl : A2 = [] := List.eq_nil_of_length_eq_zero (by have := HLN.out; omega)
                  rw [HL0.out]; simp
                go_wp2_with fail
                have HL3 : Hid (d.toList = X ++ mrg (ltOf cf) A1 B1 ++ (A2 ++ (B2 ++ Y))) := by
                  show _ = _
                  obtain rfl : A1 = [] := List.eq_nil_of_length_eq_zero (by have := HLN.out; omega)
                  rw [HL2.out, mrg_nil_left] <;> simp
                have HL4 : Hid (d.toList = X ++ mrg (ltOf cf) A1 B1 ++ mrg (ltOf cf) A2 B2 ++ Y) := by
                  show _ = _
                  obtain rfl : A2 = [] := List.eq_nil_of_length_eq_zero (by have := HLN.out; omega)
                  rw [HL3.out, mrg_nil_left] <;> simp
                go_end0
                exact ⟨rfl, d, hN, S1.out, by have := HFIN.out d HL4.out; first | exact this | simpa using this⟩

end Go.Proofs.YtefdoineacfbhaaGreatDoor.StE
