/- The walk of the law PackBack. -/
import Derived.Test.YtkjfdaleamonaaaGreatPackAO
import Derived.Test.YtkjfdaleamonaaaGreatPackAK
namespace Go.Proofs.YtkjfdaleamonaaaGreat.packBack
open Go.RowKit Go.Lib Go.Sort Wd

def Kp (w0 : World) (po so : Option Addr) (P S : List Int) (w : World) : Prop := WordsAt w w.heap.size po P ∧ WordsAt w w.heap.size so S ∧ Below w0.heap.size w0 w
theorem Kp.later {w0 w w' : World} {po so : Option Addr} {P S : List Int} (h : Kp w0 po so P S w) (hb : Below w.heap.size w w') : Kp w0 po so P S w' :=
  ⟨(h.1.below hb (Nat.le_refl _)).wider hb.size, (h.2.1.below hb (Nat.le_refl _)).wider hb.size, h.2.2.trans (hb.mono h.2.2.size)⟩
theorem cnt {P : List Int} {k : Nat} (h : k < P.length) (q : Int) : ((P.take (k + 1)).filter (broF q)).length = ((P.take k).filter (broF q)).length + if broF q (P.getD k 0) = true then 1 else 0 := by
  rw [take_w P h, List.filter_append, List.length_append]
  congr 1
  rw [List.filter_cons]
  split <;> rfl
set_option maxRecDepth 100000 in
set_option maxHeartbeats 8000000 in
theorem walk {w : World} (a0 : Option Addr) (n0 c0 : Nat) (z0 : Nat → Int) (h0 : IntsAtK .i64 w w.heap.size a0 n0 z0) (_b0 : ∀ i, i < n0 → (Lit.int .i64 (z0 i)).wf = true) (s0 : n0 * 8 ≤ 140737488351232)
    (a1 : Int) (_w1 : (Lit.int .i64 a1).wf = true) :
    Calls Tryz.prog 7 #[.slice a0 n0 c0, .int .i64 a1] w fun e w' => e = .returned (.bool true) ∧ Below w.heap.size w w' := by
  have HAW := Lib.hid awake8_any
  by_cases hbig : 20 < n0
  · have q1 : decide (20 < (n0 : Int)) = true := decide_eq_true (by omega)
    have q1n : decide (20 < n0) = true := decide_eq_true hbig
    go_enter Tryz.func7, Tryz.ntmps7
    go_wp2_with fail
    refine (HAW.out _).mono ?_
    rintro e w1 ⟨rfl, hb1⟩
    go_wp2
    go_ret
    exact ⟨rfl, hb1⟩
  · have q1 : decide (20 < (n0 : Int)) = false := decide_eq_false (by omega)
    have q1n : decide (20 < n0) = false := decide_eq_false hbig
    obtain ⟨hr2, hr1⟩ := rem13 a1
    obtain ⟨R, hR, hR12⟩ : ∃ R : Nat, a1 % 13 = R ∧ R ≤ 12 := ⟨(a1 % 13).toNat, by omega, by omega⟩
    rw [hR] at hr1
    obtain ⟨s, hs⟩ : ∃ s, a1.tmod 13 = s := ⟨_, rfl⟩
    rw [hs] at hr1 hr2
    obtain ⟨hr3, hr4⟩ := hr2
    have hwd := words8_any a0 n0 c0 z0 (R : Int) w w.heap.size h0 (Nat.le_refl _) (by omega)
    rw [show ((R : Int) % 13).toNat = R by omega] at hwd
    have HWD := Lib.hid hwd
    clear hwd hR h0
    go_enter Tryz.func7, Tryz.ntmps7
    go_wp2_with fail
    refine HWD.out.mono ?_
    rintro e w1 ⟨L, m, ao, c, rfl, hLm, hm, hLs, hLo, hb1⟩
    have hCP : ∀ (M : List Int) (x : Nat) mo mc wx, M.length = x → x ≤ 20000 → Sized R M → WordsAt wx wx.heap.size mo M → Calls Tryz.prog 26 #[.slice mo x mc] wx (ToldP wx (packF R M) 0) := fun M x mo mc wx hx hx2 hM h => by
      obtain ⟨g1, g2⟩ := cmp_pack hM (by omega)
      have := compact_any mo mc M wx wx.heap.size h (Nat.le_refl _) (by omega) (sized_64 hM)
      rwa [hx, g1, g2] at this
    have hsl := setF_length L
    have HCL := Lib.hid (fun mo mc wx h => hCP L m mo mc wx hLm (by omega) hLs h)
    have hCS := fun mo mc wx h => hCP (setF L) (setF L).length mo mc wx rfl (by omega) (sized_set hLs) h
    rw [pk_mem_eq (fun v => setF_mem L v)] at hCS
    have HCS := Lib.hid hCS
    obtain ⟨e1, e2, e3, e4⟩ := pk_spread hLs hR12 (by omega)
    have hPL := pk_len hLs hR12 (by omega)
    have h64 := pk_64 hLs
    have hfr := pk_free hLs
    have hup : Up (packF R L) := setF_up _
    have HBR : Hid (∀ u ∈ packF R L, parE u.toNat = 0 → ((packF R L).filter (broF (parI u))).length < 7) := fun u hu h => pk_bro hLs hu h
    have HSET : Hid (∀ (mo : Option Addr) (mc : Nat) (wx : World), WordsAt wx wx.heap.size mo L → Calls Tryz.prog 21 #[.slice mo m mc] wx (JoinedO wx (setF L))) := fun mo mc wx h => by
      have := rset_own mo mc L wx h (by omega)
      rwa [hLm] at this
    generalize packF R L = P at *
    obtain ⟨PL, hPLe⟩ : ∃ PL, P.length = PL := ⟨_, rfl⟩
    have HPL := Lib.hid hPLe
    obtain ⟨S, hS⟩ : ∃ S, setF L = S := ⟨_, rfl⟩
    rw [hS] at e2 e4 HSET HCS hsl
    obtain ⟨SL, hSLe⟩ : ∃ SL, S.length = SL := ⟨_, rfl⟩
    have HSL := Lib.hid hSLe
    have HSP : Hid (∀ (po : Option Addr) (pc : Nat) (wx : World), WordsAt wx wx.heap.size po P → Calls Tryz.prog 25 #[.slice po PL pc, .int .i64 R] wx (ToldS wx S 0)) := fun po pc wx h => by
      have := spread_any po pc P R wx wx.heap.size h (Nat.le_refl _) (by omega) h64
      rwa [hPLe, e3, e4] at this
    have HSZ : Hid (∀ (po : Option Addr) (pc : Nat) (wx : World), WordsAt wx wx.heap.size po P → Calls Tryz.prog 29 #[.slice po PL pc, .int .i64 R] wx fun e w' => e = .returned (.tuple #[.int .i64 (SL : Int), .int .i64 0]) ∧ Below wx.heap.size wx w') := fun po pc wx h => by
      have := psize_any po pc P R wx wx.heap.size h (Nat.le_refl _) (by omega) h64
      rwa [hPLe, e1, e2, hSLe] at this
    have HFR : Hid (∀ (po : Option Addr) (pc : Nat) (wx : World), WordsAt wx wx.heap.size po P → Calls Tryz.prog 27 #[.slice po PL pc] wx fun e w' => e = .returned (.bool true) ∧ Below wx.heap.size wx w') := fun po pc wx h => by
      have := free_any po pc P wx wx.heap.size h (Nat.le_refl _) (by omega) h64
      rwa [hPLe, hfr] at this
    have HSAME : Hid (∀ (Q : List Int) (x : Nat) ao c bo d wx, Q.length = x → x ≤ 1000000 → WordsAt wx wx.heap.size ao Q → WordsAt wx wx.heap.size bo Q → Calls Tryz.prog 24 #[.slice ao x c, .slice bo x d] wx fun e w' => e = .returned (.bool true) ∧ Below wx.heap.size wx w') := fun Q x ao c bo d wx hx h3 h1 h2 => by
      have := same_any ao bo c d Q Q wx _ _ h1 h2 (by omega)
      rwa [decide_eq_true rfl, hx] at this
    have HEL : Hid (∀ i, i < PL → ∃ u : Nat, P.getD i 0 = u ∧ u < 18446744073709551616 ∧ (u : Int) ∈ P) := fun i hi => by
      have hm2 : P.getD i 0 ∈ P := getD_mem (j := i) (by omega)
      have := h64 _ hm2
      exact ⟨(P.getD i 0).toNat, by omega, by omega, by rw [show (((P.getD i 0).toNat : Nat) : Int) = P.getD i 0 by omega]; exact hm2⟩
    have HLT : Hid (∀ i, i + 1 < PL → P.getD i 0 < P.getD (i + 1) 0) := fun i hi => by
      have := (List.pairwise_iff_getElem.1 hup) i (i + 1) (by omega) (by omega) (by omega)
      rw [List.getD_eq_getElem?_getD, List.getD_eq_getElem?_getD, List.getElem?_eq_getElem (by omega), List.getElem?_eq_getElem (by omega)]
      exact this
    have HCN : Hid (∀ k, k < PL → ∀ q, ((P.take (k + 1)).filter (broF q)).length = ((P.take k).filter (broF q)).length + if broF q (P.getD k 0) = true then 1 else 0) := fun k hk q => cnt (by omega) q
    have HTE : Hid (P.take PL = P) := List.take_of_length_le (by omega)
    have HLO := Lib.hid hLo
    have HLL := Lib.hid hLm
    have HB1 := Lib.hid hb1
    have hs1 := hb1.size
    have hPL2 : PL ≤ 20000 := by omega
    have hSL2 : SL ≤ 20000 := by omega
    clear hCS hCP hLo hLm hb1 hLs HWD e1 e2 e3 e4 h64 hfr hup hPLe hSLe hS hPL hsl
    go_wp2_with fail
    refine (HCL.out _ _ _ (words_own HLL.out.symm HLO.out)).mono ?_
    rintro e w2 ⟨po, pc, rfl, hp, hb2⟩
    rw [HPL.out]
    rw [HPL.out] at hp
    have HB2 := Lib.hid (HB1.out.trans (hb2.mono hs1))
    have HL2 := Lib.hid (own_later HLO.out hb2)
    have HP2 := Lib.hid (words_own HPL.out.symm hp)
    clear hp hb2 HB1 HLO HCL
    go_wp2_with fail
    refine (HSP.out _ _ _ HP2.out).mono ?_
    rintro e w3 ⟨so, sc, rfl, -, hws, hb3⟩
    rw [HSL.out]
    have HK3 : Hid (Kp w po so P S w3) := ⟨(HP2.out.below hb3 (Nat.le_refl _)).wider hb3.size, hws, HB2.out.trans (hb3.mono HB2.out.size)⟩
    have HL3 := Lib.hid (own_later HL2.out hb3)
    clear hws hb3 HB2 HL2 HP2 HSP
    go_wp2_with fail
    refine (HSZ.out _ _ _ HK3.out.1).mono ?_
    rintro e w4 ⟨rfl, hb4⟩
    have HK4 := Lib.hid (HK3.out.later hb4)
    have HL4 := Lib.hid (own_later HL3.out hb4)
    clear hb4 HK3 HL3 HSZ
    go_wp2_with fail
    refine (HSET.out _ _ _ (words_own HLL.out.symm HL4.out)).mono ?_
    rintro e w5 ⟨yo, yc, rfl, hy5, hb5⟩
    rw [HSL.out]
    rw [HSL.out] at hy5
    have HK5 := Lib.hid (HK4.out.later hb5)
    have HSA := Lib.hid (HSAME.out S SL so sc yo yc w5 HSL.out (by omega) HK5.out.2.1 (words_own HSL.out.symm hy5))
    clear hy5 hb5 HK4 HL4 HSET
    go_wp2_with fail
    refine HSA.out.mono ?_
    rintro e w6 ⟨rfl, hb6⟩
    have HK6 := Lib.hid (HK5.out.later hb6)
    clear hb6 HK5 HSA
    go_wp2_with fail
    refine (HFR.out _ _ _ HK6.out.1).mono ?_
    rintro e w7 ⟨rfl, hb7⟩
    have HK7 := Lib.hid (HK6.out.later hb7)
    clear hb7 HK6 HFR
    go_wp2
    go_loopw [12] (fun i wr => ∃ k : Nat, k ≤ PL ∧ i = .int .i64 k ∧ Hid (Kp w po so P S wr)) (fun i _ => PL - (intOf i).toNat)
    case atStart => exact ⟨0, by omega, rfl, HK7.out⟩
    case round =>
      obtain ⟨i, hi, rfl, HK⟩ := hrel
      obtain ⟨wo, rfl⟩ : ∃ wo, wo = wr := ⟨_, rfl⟩
      by_cases h1 : i < PL
      · have q2 : decide ((i : Int) < (PL : Int)) = true := decide_eq_true (by omega)
        obtain ⟨u0, hu0, hu64, hum⟩ := HEL.out i h1
        obtain ⟨g, off, hpo, hg, hc⟩ := HK.out.1 (by rw [HPL.out]; omega)
        have c0 := hc i (by rw [HPL.out]; exact h1)
        rw [hu0] at c0
        have HWU := Lib.hid (wup_any u0 hu64)
        have hbr := HBR.out (u0 : Int) hum
        rw [Int.toNat_natCast, show parI (u0 : Int) = ((parW u0 : Nat) : Int) by unfold parI; rw [Int.toNat_natCast]] at hbr
        have HBR0 := Lib.hid hbr
        generalize parW u0 = A0 at *
        clear hc hbr hum
        have hpo2 := Lib.hid hpo
        by_cases hE : parE u0 = 0
        · have HBR1 := Lib.hid (HBR0.out hE)
          rw [hE] at HWU
          clear hE HBR0
          subst hpo
          go_wp2_with fail
          refine (HWU.out _).mono ?_
          rintro e w8 ⟨rfl, hb8⟩
          have HK8 := Lib.hid (HK.out.later hb8)
          clear hb8 HK c0 hg HWU
          go_wp2
          go_loopw [15, 16] (fun bv kv wz => ∃ k b : Nat, k ≤ PL ∧ b ≤ k ∧ kv = .int .i64 k ∧ bv = .int .i64 b ∧ Hid (b = ((P.take k).filter (broF (A0 : Int))).length) ∧ Hid (Kp w (some ⟨g, off, none⟩) so P S wz)) (fun _ k _ => PL - (intOf k).toNat)
          case atStart => exact ⟨0, 0, by omega, by omega, rfl, rfl, rfl, HK8.out⟩
          case round =>
            obtain ⟨k, b, hk, hbk, rfl, rfl, HBC, HKz⟩ := hrel
            obtain ⟨wz, rfl⟩ : ∃ wz, wz = wr := ⟨_, rfl⟩
            by_cases h2 : k < PL
            · have q3 : decide ((k : Int) < (PL : Int)) = true := decide_eq_true (by omega)
              obtain ⟨u2, hu2, hu264, -⟩ := HEL.out k h2
              obtain ⟨g', off', hpo', hg', hc'⟩ := HKz.out.1 (by rw [HPL.out]; omega)
              cases hpo'
              have c2 := hc' k (by rw [HPL.out]; exact h2)
              rw [hu2] at c2
              have hcn := HCN.out k h2 (A0 : Int)
              rw [hu2, ← HBC.out, show broF (A0 : Int) (u2 : Int) = ((parE u2 == 0) && (((parW u2 : Nat) : Int) == (A0 : Int))) by unfold broF parI; rw [Int.toNat_natCast]] at hcn
              have HWU2 := Lib.hid (wup_any u2 hu264)
              generalize parW u2 = A2 at *
              generalize parE u2 = E2 at *
              clear hc' hu2
              have key : ((E2 == 0) = true ∧ ((A2 : Int) == (A0 : Int)) = true ∧ (A2 == A0) = true ∧ b + 1 = ((P.take (k + 1)).filter (broF (A0 : Int))).length) ∨ ((E2 == 0) = true ∧ ((A2 : Int) == (A0 : Int)) = false ∧ (A2 == A0) = false ∧ b = ((P.take (k + 1)).filter (broF (A0 : Int))).length) ∨ ((E2 == 0) = false ∧ b = ((P.take (k + 1)).filter (broF (A0 : Int))).length) := by
                by_cases h3 : E2 = 0
                · by_cases h4 : A2 = A0
                  · refine .inl ⟨by simp [h3], by simp [h4], by simp [h4], ?_⟩
                    rw [hcn, h3, h4]; simp
                  · have h5 : ¬ (A2 : Int) = (A0 : Int) := by omega
                    refine .inr (.inl ⟨by simp [h3], beq_eq_false_iff_ne.2 h5, beq_eq_false_iff_ne.2 h4, ?_⟩)
                    rw [hcn, beq_eq_false_iff_ne.2 h5, Bool.and_false, if_neg (by decide)]
                    rfl
                · refine .inr (.inr ⟨beq_eq_false_iff_ne.2 h3, ?_⟩)
                  rw [hcn, beq_eq_false_iff_ne.2 h3, Bool.false_and, if_neg (by decide)]
                  rfl
              clear hcn
              rcases key with ⟨p1, p2, p3, p4⟩ | ⟨p1, p2, p3, p4⟩ | ⟨p1, p4⟩
              all_goals
                have HBC2 := Lib.hid p4
                clear p4
                go_wp2_with fail
                refine (HWU2.out _).mono ?_
                rintro e w9 ⟨rfl, hb9⟩
                have HK9 := Lib.hid (HKz.out.later hb9)
                clear hb9 HKz c2 HWU2
                go_wp2
                go_roundw
                case rel => first | exact ⟨k + 1, b + 1, by omega, by omega, by go_num, by go_num, HBC2.out, HK9.out⟩ | exact ⟨k + 1, b, by omega, by omega, by go_num, rfl, HBC2.out, HK9.out⟩
                case measure => simp [intOf]; omega
            · obtain rfl : k = PL := by omega
              have q3 : decide ((k : Int) < (k : Int)) = false := decide_eq_false (by omega)
              have hbc := HBC.out
              rw [HTE.out] at hbc
              have hb7 : b < 7 := by rw [hbc]; exact HBR1.out
              clear hbc HBC HBR1
              have n1 : decide (7 ≤ (b : Int)) = false := decide_eq_false (by omega)
              have n1n : decide (7 ≤ b) = false := decide_eq_false (by omega)
              obtain ⟨g, off, hpo, hg, hc⟩ := HKz.out.1 (by rw [HPL.out]; omega)
              cases hpo
              have c0 := hc i (by rw [HPL.out]; exact h1)
              rw [hu0] at c0
              by_cases hi0 : i = 0
              · have n2 : decide (0 < (i : Int)) = false := decide_eq_false (by omega)
                have n2n : decide (0 < i) = false := decide_eq_false (by omega)
                clear hc c0
                go_wp2_with (first | (with_reducible refine wp_region_lex (by kernel_rfl) (by kernel_rfl) ?_) | (with_reducible refine OnlyG.intro (by kernel_rfl) ?_))
                go_roundw
                case rel => exact ⟨i + 1, by omega, by go_num, HKz.out.later ((Below.refl _ _).drew)⟩
                case measure => simp [intOf]; omega
              · obtain ⟨j, hj⟩ : ∃ j : Nat, (i : Int) - 1 = (j : Int) := ⟨i - 1, by omega⟩
                obtain ⟨u2, hu2, -, -⟩ := HEL.out j (by omega)
                have c1 := hc j (by rw [HPL.out]; omega)
                rw [hu2] at c1
                have hlt := HLT.out j (by omega)
                rw [hu2, show j + 1 = i by omega, hu0] at hlt
                have n2 : decide (0 < (i : Int)) = true := decide_eq_true (by omega)
                have n2n : decide (0 < i) = true := decide_eq_true (by omega)
                have n3 : decide ((u0 : Int) ≤ (u2 : Int)) = false := decide_eq_false (by omega)
                have n3n : decide (u0 ≤ u2) = false := decide_eq_false (by omega)
                have hip : (i : Int) < (k : Int) := by omega
                have hjp : (j : Int) < (k : Int) := by omega
                clear hc hu2 hlt
                go_wp2_with (first | (with_reducible refine wp_region_lex (by kernel_rfl) (by kernel_rfl) ?_) | (with_reducible refine OnlyG.intro (by kernel_rfl) ?_))
                go_roundw
                case rel => exact ⟨i + 1, by omega, by go_num, HKz.out.later ((Below.refl _ _).drew)⟩
                case measure => simp [intOf]; omega
        · have p0 : (parE u0 == 0) = false := by simpa using hE
          generalize parE u0 = E0 at *
          clear HBR0 hE
          subst hpo
          go_wp2_with fail
          refine (HWU.out _).mono ?_
          rintro e w8 ⟨rfl, hb8⟩
          have HK8 := Lib.hid (HK.out.later hb8)
          clear hb8 HK c0 hg HWU
          go_wp2
          go_loopw [15, 16] (fun bv kv wz => bv = .int .i64 0 ∧ kv = .int .i64 0 ∧ Hid (Kp w (some ⟨g, off, none⟩) so P S wz)) (fun _ k _ => PL - (intOf k).toNat)
          case atStart => exact ⟨rfl, rfl, HK8.out⟩
          case round =>
            obtain ⟨rfl, rfl, HKz⟩ := hrel
            obtain ⟨wz, rfl⟩ : ∃ wz, wz = wr := ⟨_, rfl⟩
            have q3 : decide (0 < (PL : Int)) = true := decide_eq_true (by omega)
            have q3n : decide (0 < PL) = true := decide_eq_true (by omega)
            have n1 : decide (7 ≤ (0 : Int)) = false := decide_eq_false (by omega)
            have n1n : decide (7 ≤ (0 : Nat)) = false := decide_eq_false (by omega)
            obtain ⟨g, off, hpo, hg, hc⟩ := HKz.out.1 (by rw [HPL.out]; omega)
            cases hpo
            have c0 := hc i (by rw [HPL.out]; exact h1)
            rw [hu0] at c0
            by_cases hi0 : i = 0
            · have n2 : decide (0 < (i : Int)) = false := decide_eq_false (by omega)
              have n2n : decide (0 < i) = false := decide_eq_false (by omega)
              clear hc c0
              go_wp2_with (first | (with_reducible refine wp_region_lex (by kernel_rfl) (by kernel_rfl) ?_) | (with_reducible refine OnlyG.intro (by kernel_rfl) ?_))
              go_roundw
              case rel => exact ⟨i + 1, by omega, by go_num, HKz.out.later ((Below.refl _ _).drew)⟩
              case measure => simp [intOf]; omega
            · obtain ⟨j, hj⟩ : ∃ j : Nat, (i : Int) - 1 = (j : Int) := ⟨i - 1, by omega⟩
              obtain ⟨u2, hu2, -, -⟩ := HEL.out j (by omega)
              have c1 := hc j (by rw [HPL.out]; omega)
              rw [hu2] at c1
              have hlt := HLT.out j (by omega)
              rw [hu2, show j + 1 = i by omega, hu0] at hlt
              have n2 : decide (0 < (i : Int)) = true := decide_eq_true (by omega)
              have n2n : decide (0 < i) = true := decide_eq_true (by omega)
              have n3 : decide ((u0 : Int) ≤ (u2 : Int)) = false := decide_eq_false (by omega)
              have n3n : decide (u0 ≤ u2) = false := decide_eq_false (by omega)
              have hip : (i : Int) < (PL : Int) := by omega
              have hjp : (j : Int) < (PL : Int) := by omega
              clear hc hu2 hlt
              go_wp2_with (first | (with_reducible refine wp_region_lex (by kernel_rfl) (by kernel_rfl) ?_) | (with_reducible refine OnlyG.intro (by kernel_rfl) ?_))
              go_roundw
              case rel => exact ⟨i + 1, by omega, by go_num, HKz.out.later ((Below.refl _ _).drew)⟩
              case measure => simp [intOf]; omega
      · obtain rfl : i = PL := by omega
        have q2 : decide ((i : Int) < (i : Int)) = false := decide_eq_false (by omega)
        go_wp2_with fail
        rw [← HSL.out]
        refine (HCS.out _ _ _ HK.out.2.1).mono ?_
        rintro e w8 ⟨yo, yc, rfl, hy8, hb8⟩
        rw [HPL.out]
        rw [HPL.out] at hy8
        have HK8 := Lib.hid (HK.out.later hb8)
        have HSB := Lib.hid (HSAME.out P i yo yc po pc w8 HPL.out (by omega) (words_own HPL.out.symm hy8) HK8.out.1)
        clear hy8 hb8 HK HCS
        go_wp2_with fail
        refine HSB.out.mono ?_
        rintro e w9 ⟨rfl, hb9⟩
        have HK9 := Lib.hid (HK8.out.later hb9)
        clear hb9 HK8 HSB
        go_wp2_with fail
        refine (HAW.out _).mono ?_
        rintro e w10 ⟨rfl, hb10⟩
        have hb := (HK9.out.later hb10).2.2
        clear hb10 HK9
        go_wp2
        go_ret
        exact ⟨rfl, hb⟩
end Go.Proofs.YtkjfdaleamonaaaGreat.packBack
