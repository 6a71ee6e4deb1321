/- The walk of the law PackTells. -/
import Derived.Test.YtkjfdaleamonaaaGreatPackAK
import Derived.Test.YtkjfdaleamonaaaGreatPackAJ
namespace Go.Proofs.YtkjfdaleamonaaaGreat.packTells
open Go.RowKit Go.Lib Go.Sort Wd

def Kp (w0 : World) (po so : Option Addr) (P S : List Int) (w : World) : Prop := WordsAt w w.heap.size po P ∧ WordsAt w w.heap.size so S ∧ Below w0.heap.size w0 w
theorem Kp.later {w0 w w' : World} {po so : Option Addr} {P S : List Int} (h : Kp w0 po so P S w) (hb : Below w.heap.size w w') : Kp w0 po so P S w' :=
  ⟨(h.1.below hb (Nat.le_refl _)).wider hb.size, (h.2.1.below hb (Nat.le_refl _)).wider hb.size, h.2.2.trans (hb.mono h.2.2.size)⟩
theorem cmp_good {l : List Int} (h64 : In64 l) (hl : l.length ≤ 20000) : In64 (cmpL l) ∧ (cmpL l).length ≤ 20000 := by
  by_cases hE : cmpE l = 0
  · by_cases h0 : l = []
    · subst h0
      have hs : Sized 0 ([] : List Int) := fun v hv => by cases hv
      rw [(cmp_pack hs (by simp)).2]
      exact ⟨pk_64 hs, pk_len hs (by decide) (by simp)⟩
    · have ha : alkE l = 0 := by
        unfold cmpE at hE
        rw [if_neg (by omega), if_neg h0] at hE
        exact hE
      obtain ⟨hr, hs⟩ := alk_sized h64 ha h0
      rw [(cmp_pack hs hl).2]
      exact ⟨pk_64 hs, pk_len hs hr hl⟩
  · unfold cmpL
    rw [if_neg hE]
    exact ⟨fun v hv => (by cases hv), by simp⟩
theorem any_snoc (x : Nat) {L : List Int} {k : Nat} (h : k < L.length) : ((L.take (k + 1)).any fun v => inB x v.toNat) = (((L.take k).any fun v => inB x v.toNat) || inB x (L.getD k 0).toNat) := by
  rw [take_w L h, List.any_append, List.any_cons, List.any_nil, Bool.or_false]
theorem cov_any (x : Nat) (L : List Int) : (L.any fun v => inB x v.toNat) = covB L x := by
  unfold covB
  cases h : isW x with
  | true => rw [Bool.true_and]; congr 1; funext v; unfold inB; rw [h, Bool.true_and]
  | false =>
    rw [Bool.false_and, List.any_eq_false]
    intro v _
    unfold inB
    rw [h, Bool.false_and]
    decide
theorem spr_len (Q : List Int) (r : Int) : (sprL Q r).length ≤ 20000 := by
  unfold sprL
  split
  · next h =>
    have h2 : sumS r.toNat Q ≤ 20000 := by
      unfold sprE at h
      split at h
      · split at h
        · cases h
        · omega
      · next h3 => exact absurd h h3
    have := setF_length (Q.flatMap (dsV r.toNat))
    rw [flat_len] at this
    omega
  · simp
set_option maxRecDepth 100000 in
set_option maxHeartbeats 16000000 in
theorem walk {w : World} (a0 : Option Addr) (n0 c0 : Nat) (z0 : Nat → Int) (h0 : IntsAtK .u64 w w.heap.size a0 n0 z0) (b0 : ∀ i, i < n0 → (Lit.int .u64 (z0 i)).wf = true) (_s0 : n0 * 8 ≤ 140737488351232) (_o0 : a0 = none → n0 = 0 ∧ c0 = 0)
    (a1 : Option Addr) (n1 c1 : Nat) (z1 : Nat → Int) (h1 : IntsAtK .i64 w w.heap.size a1 n1 z1) (_b1 : ∀ i, i < n1 → (Lit.int .i64 (z1 i)).wf = true) (_s1 : n1 * 8 ≤ 140737488351232)
    (a2 : Int) (_w2 : (Lit.int .i64 a2).wf = true) (a3 : Int) (_w3 : (Lit.int .i64 a3).wf = true) (a4 : Int) (w4 : (Lit.int .u64 a4).wf = true) :
    Calls Tryz.prog 11 #[.slice a0 n0 c0, .slice a1 n1 c1, .int .i64 a2, .int .i64 a3, .int .u64 a4] w fun e w' => e = .returned (.bool true) ∧ Below w.heap.size w w' := by
  have HAW := Lib.hid awake8_any
  obtain ⟨x, rfl, hx64⟩ : ∃ x : Nat, a4 = x ∧ x < 18446744073709551616 := by
    unfold Lit.wf at w4
    rw [Bool.and_eq_true, decide_eq_true_eq, decide_eq_true_eq, show IntKind.u64.min = 0 from rfl, show IntKind.u64.max = 18446744073709551615 from rfl] at w4
    exact ⟨a4.toNat, by omega, by omega⟩
  clear w4
  by_cases hb0 : 40 < n0
  · have q1 : decide (40 < (n0 : Int)) = true := decide_eq_true (by omega)
    have q1n : decide (40 < n0) = true := decide_eq_true (by omega)
    clear h0 h1 b0
    go_enter Tryz.func11, Tryz.ntmps11
    go_wp2_with fail
    refine (HAW.out _).mono ?_
    rintro e w1 ⟨rfl, hb1⟩
    have B1 := Lib.hid hb1
    clear hb1
    go_wp2
    go_ret
    exact ⟨rfl, B1.out⟩
  have q1 : decide (40 < (n0 : Int)) = false := decide_eq_false (by omega)
  have q1n : decide (40 < n0) = false := decide_eq_false (by omega)
  by_cases hb1 : 20 < n1
  · have q2 : decide (20 < (n1 : Int)) = true := decide_eq_true (by omega)
    have q2n : decide (20 < n1) = true := decide_eq_true (by omega)
    clear h0 h1 b0
    go_enter Tryz.func11, Tryz.ntmps11
    go_wp2_with fail
    refine (HAW.out _).mono ?_
    rintro e w1 ⟨rfl, hb1⟩
    have B1 := Lib.hid hb1
    clear hb1
    go_wp2
    go_ret
    exact ⟨rfl, B1.out⟩
  have q2 : decide (20 < (n1 : Int)) = false := decide_eq_false (by omega)
  have q2n : decide (20 < n1) = false := decide_eq_false (by omega)
  obtain ⟨raw, hraw⟩ : ∃ raw, (List.range n0).map z0 = raw := ⟨_, rfl⟩
  have hrl : raw.length = n0 := by rw [← hraw]; simp
  have hrw : WordsAt w w.heap.size a0 raw := by rw [← hraw]; exact words_of_ints h0
  have hr64 : In64 raw := fun v hv => by
    rw [← hraw] at hv
    obtain ⟨i, hi, rfl⟩ := List.mem_map.1 hv
    have h := b0 i (List.mem_range.1 hi)
    unfold Lit.wf at h
    rw [Bool.and_eq_true, decide_eq_true_eq, decide_eq_true_eq, show IntKind.u64.min = 0 from rfl, show IntKind.u64.max = 18446744073709551615 from rfl] at h
    omega
  have HWD := Lib.hid (words8_any a1 n1 c1 z1 a2 w w.heap.size h1 (Nat.le_refl _) (by omega))
  have HRAW : Hid (raw.length = n0 ∧ In64 raw ∧ WordsAt w w.heap.size a0 raw) := ⟨hrl, hr64, hrw⟩
  clear h0 h1 b0 hraw hrl hrw hr64
  go_enter Tryz.func11, Tryz.ntmps11
  go_wp2_with fail
  refine HWD.out.mono ?_
  rintro e w1 ⟨L0, m0, ao0, cc0, rfl, hLm, hm, hLs, hLo, hb1⟩
  have hL64 : In64 L0 := fun v hv => by
    obtain ⟨z, hz, rfl⟩ := hLs v hv
    have := (wordN_lt hz).1
    exact ⟨by omega, by omega⟩
  have HST : Hid (L0.length = m0 ∧ In64 L0 ∧ WordsAt w1 w1.heap.size ao0 L0 ∧ Below w.heap.size w w1) := ⟨hLm, hL64, words_own hLm.symm hLo, hb1⟩
  clear hLm hL64 hLo hb1 hLs HWD
  go_wp2
  go_loopw [11, 12] (fun lv iv wr => ∃ (i : Nat) (L : List Int) (ao : Option Addr) (n c : Nat), i ≤ 2 ∧ n ≤ 400 ∧ iv = .int .i64 i ∧ lv = .slice ao n c ∧ Hid (L.length = n ∧ In64 L) ∧ Hid (WordsAt wr wr.heap.size ao L) ∧ Hid (Below w.heap.size w wr)) (fun _ i _ => 2 - (intOf i).toNat)
  case atStart => exact ⟨0, L0, ao0, m0, cc0, by omega, hm, rfl, rfl, ⟨HST.out.1, HST.out.2.1⟩, HST.out.2.2.1, HST.out.2.2.2⟩
  case round =>
    clear HST
    obtain ⟨i, L, ao, n, c, hi, hn, rfl, rfl, HL, HW, HI⟩ := hrel
    obtain ⟨wa, rfl⟩ : ∃ wa, wa = wr := ⟨_, rfl⟩
    by_cases hlt : i < 2
    · have p1 : decide ((i : Int) < 2) = true := decide_eq_true (by omega)
      obtain ⟨hLn, hL64⟩ := HL.out
      obtain ⟨hQ64, hQn⟩ := cmp_good hL64 (by omega)
      have hC1 := compact_any ao c L wa _ HW.out (Nat.le_refl _) (by omega) hL64
      have hC2 : Hid (∀ w2, WordsAt w2 w2.heap.size ao L → Calls Tryz.prog 34 #[.slice ao n c] w2 (ToldP w2 (cmpL L) (cmpE L))) := fun w2 h => by
        have := rcompact_any ao c L w2 _ h (Nat.le_refl _) (by omega) hL64
        rwa [hLn] at this
      have hF1 : Hid (∀ w2, WordsAt w2 w2.heap.size ao L → Calls Tryz.prog 27 #[.slice ao n c] w2 fun e w' => e = .returned (.bool (freeB L)) ∧ Below w2.heap.size w2 w') := fun w2 h => by
        have := free_any ao c L w2 _ h (Nat.le_refl _) (by omega) hL64
        rwa [hLn] at this
      have hF2 : Hid (∀ w2, WordsAt w2 w2.heap.size ao L → Calls Tryz.prog 35 #[.slice ao n c] w2 fun e w' => e = .returned (.bool (freeB L)) ∧ Below w2.heap.size w2 w') := fun w2 h => by
        have := rfree_any ao c L w2 _ h (Nat.le_refl _) (by omega) hL64
        rwa [hLn] at this
      have hCO : Hid (∀ w2, WordsAt w2 w2.heap.size ao L → Calls Tryz.prog 32 #[.slice ao n c, .int .u64 x] w2 fun e w' => e = .returned (.bool (covB L x)) ∧ Below w2.heap.size w2 w') := fun w2 h => by
        have := covers_any ao c L x hx64 w2 _ h (Nat.le_refl _) (by omega) hL64
        rwa [hLn] at this
      rw [hLn] at hC1
      have HC1 := Lib.hid hC1
      have HEL : Hid (∀ k, k < n → ∃ u : Nat, L.getD k 0 = u ∧ u < 18446744073709551616 ∧ ((L.take (k + 1)).any fun v => inB x v.toNat) = (((L.take k).any fun v => inB x v.toNat) || inB x u)) := fun k hk => by
        have hm2 : L.getD k 0 ∈ L := getD_mem (j := k) (by omega)
        have := hL64 _ hm2
        refine ⟨(L.getD k 0).toNat, by omega, by omega, any_snoc x (by omega)⟩
      have HEN : Hid (((L.take n).any fun v => inB x v.toNat) = covB L x) := by show _ = _; rw [List.take_of_length_le (by omega)]; exact cov_any x L
      obtain ⟨Q, hQ⟩ : ∃ Q, cmpL L = Q := ⟨_, rfl⟩
      rw [hQ] at hQ64 hQn HC1 hC2
      obtain ⟨E, hE⟩ : ∃ E, cmpE L = E := ⟨_, rfl⟩
      rw [hE] at HC1 hC2
      obtain ⟨nq, hnq⟩ : ∃ nq, Q.length = nq := ⟨_, rfl⟩
      have HNQ := Lib.hid hnq
      rw [hnq] at hQn
      have HQ64 := Lib.hid hQ64
      clear hLn hL64 hQ64 hC1 hQ hE hnq
      go_wp2_with fail
      refine HC1.out.mono ?_
      rintro e w2 ⟨po, pc, rfl, hp, hb2⟩
      rw [HNQ.out]
      rw [HNQ.out] at hp
      have hs := HI.out.size
      have HK2 : Hid (Kp w ao po L Q w2) := ⟨(HW.out.below hb2 (Nat.le_refl _)).wider hb2.size, words_own HNQ.out.symm hp, HI.out.trans (hb2.mono hs)⟩
      clear hp hb2 HC1 HW HI
      go_wp2_with fail
      refine (hC2.out _ HK2.out.1).mono ?_
      rintro e w3 ⟨qo, qc, rfl, hq, hb3⟩
      rw [HNQ.out]
      rw [HNQ.out] at hq
      have HP3 : Hid (WordsAt w3 w3.heap.size po Q) := (HK2.out.later hb3).2.1
      have HK3 : Hid (Kp w ao qo L Q w3) := ⟨(HK2.out.later hb3).1, words_own HNQ.out.symm hq, (HK2.out.later hb3).2.2⟩
      have hsame := same_any po qo pc qc Q Q w3 _ _ HP3.out HK3.out.2.1 (by rw [HNQ.out]; omega)
      rw [decide_eq_true rfl, HNQ.out] at hsame
      have HSAME := Lib.hid hsame
      clear hq hb3 HK2 HP3 hC2 hsame
      go_wp2_with fail
      refine HSAME.out.mono ?_
      rintro e w4 ⟨rfl, hb4⟩
      have HK4 := Lib.hid (HK3.out.later hb4)
      clear hb4 HK3 HSAME
      have pE : (E != E) = false := by simp
      have HSZ1 : Hid (∀ w2, WordsAt w2 w2.heap.size qo Q → Calls Tryz.prog 29 #[.slice qo nq qc, .int .i64 a3] w2 fun e w' => e = .returned (.tuple #[.int .i64 (szN Q a3), .int .i64 (szE Q a3)]) ∧ Below w2.heap.size w2 w') := fun w2 h => by
        have := psize_any qo qc Q a3 w2 _ h (Nat.le_refl _) (by rw [HNQ.out]; omega) HQ64.out
        rwa [HNQ.out] at this
      have HSZ2 : Hid (∀ w2, WordsAt w2 w2.heap.size qo Q → Calls Tryz.prog 36 #[.slice qo nq qc, .int .i64 a3] w2 fun e w' => e = .returned (.tuple #[.int .i64 (szN Q a3), .int .i64 (szE Q a3)]) ∧ Below w2.heap.size w2 w') := fun w2 h => by
        have := rsize_any qo qc Q a3 w2 _ h (Nat.le_refl _) (by rw [HNQ.out]; omega) HQ64.out
        rwa [HNQ.out] at this
      have HSP1 : Hid (∀ w2, WordsAt w2 w2.heap.size qo Q → Calls Tryz.prog 25 #[.slice qo nq qc, .int .i64 a3] w2 (ToldS w2 (sprL Q a3) (sprE Q a3))) := fun w2 h => by
        have := spread_any qo qc Q a3 w2 _ h (Nat.le_refl _) (by rw [HNQ.out]; omega) HQ64.out
        rwa [HNQ.out] at this
      have HSP2 : Hid (∀ w2, WordsAt w2 w2.heap.size qo Q → Calls Tryz.prog 37 #[.slice qo nq qc, .int .i64 a3] w2 (ToldP w2 (sprL Q a3) (sprE Q a3))) := fun w2 h => by
        have := rspread_any qo qc Q a3 w2 _ h (Nat.le_refl _) (by rw [HNQ.out]; omega) HQ64.out
        rwa [HNQ.out] at this
      have hSl := spr_len Q a3
      generalize szN Q a3 = SN at *
      generalize szE Q a3 = SE at *
      generalize sprL Q a3 = S at *
      generalize sprE Q a3 = XE at *
      obtain ⟨ns, hns⟩ : ∃ ns, S.length = ns := ⟨_, rfl⟩
      have HNS := Lib.hid hns
      rw [hns] at hSl
      clear hns
      have pSN : (SN != SN) = false := by simp
      have pSE : (SE != SE) = false := by simp
      have pXE : (XE != XE) = false := by simp
      have pfb : ∀ fb : Bool, (fb != fb) = false := by simp
      have PFB := Lib.hid pfb
      clear pfb
      rcases (show n ≤ 120 ∨ ¬ n ≤ 120 by omega) with h120 | h120
      · have p3 : decide ((n : Int) ≤ 120) = true := decide_eq_true (by omega)
        have p3n : decide (n ≤ 120) = true := decide_eq_true h120
        generalize freeB L = fb at *
        have p4 := PFB.out fb
        go_wp2_with fail
        refine (hF1.out _ HK4.out.1).mono ?_
        rintro e w5 ⟨rfl, hb5⟩
        have HK5 := Lib.hid (HK4.out.later hb5)
        clear hb5 HK4
        go_wp2_with fail
        refine (hF2.out _ HK5.out.1).mono ?_
        rintro e w6 ⟨rfl, hb6⟩
        have HK6 := Lib.hid (HK5.out.later hb6)
        clear hb6 HK5 hF1 hF2
        go_wp2_with fail
        refine (HSZ1.out _ HK6.out.2.1).mono ?_
        rintro e w7 ⟨rfl, hb7⟩
        have HK7 := Lib.hid (HK6.out.later hb7)
        clear hb7 HK6 HSZ1
        go_wp2_with fail
        refine (HSZ2.out _ HK7.out.2.1).mono ?_
        rintro e w8 ⟨rfl, hb8⟩
        have HK8 := Lib.hid (HK7.out.later hb8)
        clear hb8 HK7 HSZ2
        go_wp2_with fail
        refine (HSP1.out _ HK8.out.2.1).mono ?_
        rintro e wS ⟨so, sc, rfl, -, hws, hbS⟩
        rw [HNS.out]
        have HKS := Lib.hid (HK8.out.later hbS)
        have HSW := Lib.hid hws
        clear hbS HK8 HSP1 hws
        rcases (show SN ≤ 2500 ∨ (¬ SN ≤ 2500 ∧ SE ≠ 0) ∨ (¬ SN ≤ 2500 ∧ SE = 0) by omega) with h25 | ⟨h25, hse⟩ | ⟨h25, hse⟩
        · have p5 : decide (SN ≤ 2500) = true := decide_eq_true h25
          go_wp2_with fail
          refine (HSP2.out _ HKS.out.2.1).mono ?_
          rintro e wT ⟨xo, tc, rfl, ht, hbT⟩
          rw [HNS.out]
          rw [HNS.out] at ht
          have HKT := Lib.hid (HKS.out.later hbT)
          have hsm := same_any so xo sc tc S S wT _ _ ((HSW.out.below hbT (Nat.le_refl _)).wider hbT.size) (words_own HNS.out.symm ht) (by rw [HNS.out]; omega)
          rw [decide_eq_true rfl, HNS.out] at hsm
          have HSM := Lib.hid hsm
          clear ht hbT HKS HSW hsm
          go_wp2_with fail
          refine HSM.out.mono ?_
          rintro e wU ⟨rfl, hbU⟩
          have HK9 := Lib.hid (HKT.out.later hbU)
          clear hbU HKT HSM
          go_wp2
          go_loopw [25, 26] (fun bv kv wz => ∃ (k : Nat) (bb : Bool), k ≤ n ∧ kv = .int .i64 k ∧ bv = .bool bb ∧ Hid (bb = ((L.take k).any fun v => inB x v.toNat)) ∧ Hid (Kp w ao qo L Q wz)) (fun _ k _ => n - (intOf k).toNat)
          case atStart => exact ⟨0, false, by omega, rfl, rfl, rfl, HK9.out⟩
          case round =>
            obtain ⟨k, bb, hk, rfl, rfl, HBB, HKz⟩ := hrel
            obtain ⟨wz, rfl⟩ : ∃ wz, wz = wr := ⟨_, rfl⟩
            by_cases hlt2 : k < n
            · have p2 : decide ((k : Int) < (n : Int)) = true := decide_eq_true (by omega)
              obtain ⟨u, hu, hu64, han⟩ := HEL.out k hlt2
              obtain ⟨g, off, hao, hg, hc⟩ := HKz.out.1 (by rw [HL.out.1]; omega)
              have c1 := hc k (by rw [HL.out.1]; exact hlt2)
              rw [hu] at c1
              have HWI := Lib.hid (wordin_any x u hx64 hu64)
              generalize inB x u = iu at *
              have HAN := Lib.hid han
              clear hc hu han
              cases bb with
              | true =>
                have HB2 : Hid (true = ((L.take (k + 1)).any fun v => inB x v.toNat)) := by show _ = _; rw [HAN.out, ← HBB.out]; rfl
                clear c1 hao
                go_wp2
                go_roundw
                case rel => exact ⟨k + 1, true, by omega, by go_num, rfl, HB2.out, HKz.out⟩
                case measure => simp [intOf]; omega
              | false =>
                have HB2 : Hid (iu = ((L.take (k + 1)).any fun v => inB x v.toNat)) := by show _ = _; rw [HAN.out, ← HBB.out]; rfl
                have HAO := Lib.hid hao
                obtain ⟨ap, hap⟩ : ∃ ap, ap = ao := ⟨_, rfl⟩
                have HAPE := Lib.hid hap
                subst hao
                go_wp2_with fail
                refine (HWI.out _).mono ?_
                rintro e wy ⟨rfl, hby⟩
                have HKy := Lib.hid (HKz.out.later hby)
                clear c1 hby HKz
                go_wp2
                go_roundw
                case rel => exact ⟨k + 1, iu, by omega, by go_num, rfl, HB2.out, HKy.out⟩
                case measure => simp [intOf]; omega
            · obtain rfl : k = n := by omega
              have p2 : decide ((k : Int) < (k : Int)) = false := decide_eq_false (by omega)
              have HB2 : Hid (bb = covB L x) := by show _ = _; rw [HBB.out, HEN.out]
              have hcv := hCO.out wz HKz.out.1
              rw [← HB2.out] at hcv
              have HCV := Lib.hid hcv
              clear hcv HBB HB2 hCO HEN HEL
              go_wp2_with fail
              refine HCV.out.mono ?_
              rintro e wy ⟨rfl, hby⟩
              have HKy := Lib.hid (HKz.out.later hby)
              have HRW : Hid (WordsAt wy wy.heap.size a0 raw) := (HRAW.out.2.2.below HKy.out.2.2 (Nat.le_refl _)).wider HKy.out.2.2.size
              have pbb : (bb != bb) = false := by simp
              clear hby HKz HCV
              go_wp2
              go_roundw
              case rel => exact ⟨i + 1, raw, a0, n0, c0, by omega, by omega, by go_num, rfl, ⟨HRAW.out.1, HRAW.out.2.1⟩, HRW.out, HKy.out.2.2⟩
              case measure => simp [intOf]; omega
        · have p5 : decide (SN ≤ 2500) = false := decide_eq_false h25
          have p6 : (SE != 0) = true := by simp [hse]
          clear hse
          go_wp2_with fail
          refine (HSP2.out _ HKS.out.2.1).mono ?_
          rintro e wT ⟨xo, tc, rfl, ht, hbT⟩
          rw [HNS.out]
          rw [HNS.out] at ht
          have HKT := Lib.hid (HKS.out.later hbT)
          have hsm := same_any so xo sc tc S S wT _ _ ((HSW.out.below hbT (Nat.le_refl _)).wider hbT.size) (words_own HNS.out.symm ht) (by rw [HNS.out]; omega)
          rw [decide_eq_true rfl, HNS.out] at hsm
          have HSM := Lib.hid hsm
          clear ht hbT HKS HSW hsm
          go_wp2_with fail
          refine HSM.out.mono ?_
          rintro e wU ⟨rfl, hbU⟩
          have HK9 := Lib.hid (HKT.out.later hbU)
          clear hbU HKT HSM
          go_wp2
          go_loopw [25, 26] (fun bv kv wz => ∃ (k : Nat) (bb : Bool), k ≤ n ∧ kv = .int .i64 k ∧ bv = .bool bb ∧ Hid (bb = ((L.take k).any fun v => inB x v.toNat)) ∧ Hid (Kp w ao qo L Q wz)) (fun _ k _ => n - (intOf k).toNat)
          case atStart => exact ⟨0, false, by omega, rfl, rfl, rfl, HK9.out⟩
          case round =>
            obtain ⟨k, bb, hk, rfl, rfl, HBB, HKz⟩ := hrel
            obtain ⟨wz, rfl⟩ : ∃ wz, wz = wr := ⟨_, rfl⟩
            by_cases hlt2 : k < n
            · have p2 : decide ((k : Int) < (n : Int)) = true := decide_eq_true (by omega)
              obtain ⟨u, hu, hu64, han⟩ := HEL.out k hlt2
              obtain ⟨g, off, hao, hg, hc⟩ := HKz.out.1 (by rw [HL.out.1]; omega)
              have c1 := hc k (by rw [HL.out.1]; exact hlt2)
              rw [hu] at c1
              have HWI := Lib.hid (wordin_any x u hx64 hu64)
              generalize inB x u = iu at *
              have HAN := Lib.hid han
              clear hc hu han
              cases bb with
              | true =>
                have HB2 : Hid (true = ((L.take (k + 1)).any fun v => inB x v.toNat)) := by show _ = _; rw [HAN.out, ← HBB.out]; rfl
                clear c1 hao
                go_wp2
                go_roundw
                case rel => exact ⟨k + 1, true, by omega, by go_num, rfl, HB2.out, HKz.out⟩
                case measure => simp [intOf]; omega
              | false =>
                have HB2 : Hid (iu = ((L.take (k + 1)).any fun v => inB x v.toNat)) := by show _ = _; rw [HAN.out, ← HBB.out]; rfl
                have HAO := Lib.hid hao
                obtain ⟨ap, hap⟩ : ∃ ap, ap = ao := ⟨_, rfl⟩
                have HAPE := Lib.hid hap
                subst hao
                go_wp2_with fail
                refine (HWI.out _).mono ?_
                rintro e wy ⟨rfl, hby⟩
                have HKy := Lib.hid (HKz.out.later hby)
                clear c1 hby HKz
                go_wp2
                go_roundw
                case rel => exact ⟨k + 1, iu, by omega, by go_num, rfl, HB2.out, HKy.out⟩
                case measure => simp [intOf]; omega
            · obtain rfl : k = n := by omega
              have p2 : decide ((k : Int) < (k : Int)) = false := decide_eq_false (by omega)
              have HB2 : Hid (bb = covB L x) := by show _ = _; rw [HBB.out, HEN.out]
              have hcv := hCO.out wz HKz.out.1
              rw [← HB2.out] at hcv
              have HCV := Lib.hid hcv
              clear hcv HBB HB2 hCO HEN HEL
              go_wp2_with fail
              refine HCV.out.mono ?_
              rintro e wy ⟨rfl, hby⟩
              have HKy := Lib.hid (HKz.out.later hby)
              have HRW : Hid (WordsAt wy wy.heap.size a0 raw) := (HRAW.out.2.2.below HKy.out.2.2 (Nat.le_refl _)).wider HKy.out.2.2.size
              have pbb : (bb != bb) = false := by simp
              clear hby HKz HCV
              go_wp2
              go_roundw
              case rel => exact ⟨i + 1, raw, a0, n0, c0, by omega, by omega, by go_num, rfl, ⟨HRAW.out.1, HRAW.out.2.1⟩, HRW.out, HKy.out.2.2⟩
              case measure => simp [intOf]; omega
        · have p5 : decide (SN ≤ 2500) = false := decide_eq_false h25
          have p6 : (SE != 0) = false := by simp [hse]
          have HK9 := HKS
          clear HKS HSW hse HSP2
          go_wp2
          go_loopw [25, 26] (fun bv kv wz => ∃ (k : Nat) (bb : Bool), k ≤ n ∧ kv = .int .i64 k ∧ bv = .bool bb ∧ Hid (bb = ((L.take k).any fun v => inB x v.toNat)) ∧ Hid (Kp w ao qo L Q wz)) (fun _ k _ => n - (intOf k).toNat)
          case atStart => exact ⟨0, false, by omega, rfl, rfl, rfl, HK9.out⟩
          case round =>
            obtain ⟨k, bb, hk, rfl, rfl, HBB, HKz⟩ := hrel
            obtain ⟨wz, rfl⟩ : ∃ wz, wz = wr := ⟨_, rfl⟩
            by_cases hlt2 : k < n
            · have p2 : decide ((k : Int) < (n : Int)) = true := decide_eq_true (by omega)
              obtain ⟨u, hu, hu64, han⟩ := HEL.out k hlt2
              obtain ⟨g, off, hao, hg, hc⟩ := HKz.out.1 (by rw [HL.out.1]; omega)
              have c1 := hc k (by rw [HL.out.1]; exact hlt2)
              rw [hu] at c1
              have HWI := Lib.hid (wordin_any x u hx64 hu64)
              generalize inB x u = iu at *
              have HAN := Lib.hid han
              clear hc hu han
              cases bb with
              | true =>
                have HB2 : Hid (true = ((L.take (k + 1)).any fun v => inB x v.toNat)) := by show _ = _; rw [HAN.out, ← HBB.out]; rfl
                clear c1 hao
                go_wp2
                go_roundw
                case rel => exact ⟨k + 1, true, by omega, by go_num, rfl, HB2.out, HKz.out⟩
                case measure => simp [intOf]; omega
              | false =>
                have HB2 : Hid (iu = ((L.take (k + 1)).any fun v => inB x v.toNat)) := by show _ = _; rw [HAN.out, ← HBB.out]; rfl
                have HAO := Lib.hid hao
                obtain ⟨ap, hap⟩ : ∃ ap, ap = ao := ⟨_, rfl⟩
                have HAPE := Lib.hid hap
                subst hao
                go_wp2_with fail
                refine (HWI.out _).mono ?_
                rintro e wy ⟨rfl, hby⟩
                have HKy := Lib.hid (HKz.out.later hby)
                clear c1 hby HKz
                go_wp2
                go_roundw
                case rel => exact ⟨k + 1, iu, by omega, by go_num, rfl, HB2.out, HKy.out⟩
                case measure => simp [intOf]; omega
            · obtain rfl : k = n := by omega
              have p2 : decide ((k : Int) < (k : Int)) = false := decide_eq_false (by omega)
              have HB2 : Hid (bb = covB L x) := by show _ = _; rw [HBB.out, HEN.out]
              have hcv := hCO.out wz HKz.out.1
              rw [← HB2.out] at hcv
              have HCV := Lib.hid hcv
              clear hcv HBB HB2 hCO HEN HEL
              go_wp2_with fail
              refine HCV.out.mono ?_
              rintro e wy ⟨rfl, hby⟩
              have HKy := Lib.hid (HKz.out.later hby)
              have HRW : Hid (WordsAt wy wy.heap.size a0 raw) := (HRAW.out.2.2.below HKy.out.2.2 (Nat.le_refl _)).wider HKy.out.2.2.size
              have pbb : (bb != bb) = false := by simp
              clear hby HKz HCV
              go_wp2
              go_roundw
              case rel => exact ⟨i + 1, raw, a0, n0, c0, by omega, by omega, by go_num, rfl, ⟨HRAW.out.1, HRAW.out.2.1⟩, HRW.out, HKy.out.2.2⟩
              case measure => simp [intOf]; omega
      · have p3 : decide ((n : Int) ≤ 120) = false := decide_eq_false (by omega)
        have p3n : decide (n ≤ 120) = false := decide_eq_false h120
        have HK6 := HK4
        clear HK4 hF1 hF2
        go_wp2_with fail
        refine (HSZ1.out _ HK6.out.2.1).mono ?_
        rintro e w7 ⟨rfl, hb7⟩
        have HK7 := Lib.hid (HK6.out.later hb7)
        clear hb7 HK6 HSZ1
        go_wp2_with fail
        refine (HSZ2.out _ HK7.out.2.1).mono ?_
        rintro e w8 ⟨rfl, hb8⟩
        have HK8 := Lib.hid (HK7.out.later hb8)
        clear hb8 HK7 HSZ2
        go_wp2_with fail
        refine (HSP1.out _ HK8.out.2.1).mono ?_
        rintro e wS ⟨so, sc, rfl, -, hws, hbS⟩
        rw [HNS.out]
        have HKS := Lib.hid (HK8.out.later hbS)
        have HSW := Lib.hid hws
        clear hbS HK8 HSP1 hws
        rcases (show SN ≤ 2500 ∨ (¬ SN ≤ 2500 ∧ SE ≠ 0) ∨ (¬ SN ≤ 2500 ∧ SE = 0) by omega) with h25 | ⟨h25, hse⟩ | ⟨h25, hse⟩
        · have p5 : decide (SN ≤ 2500) = true := decide_eq_true h25
          go_wp2_with fail
          refine (HSP2.out _ HKS.out.2.1).mono ?_
          rintro e wT ⟨xo, tc, rfl, ht, hbT⟩
          rw [HNS.out]
          rw [HNS.out] at ht
          have HKT := Lib.hid (HKS.out.later hbT)
          have hsm := same_any so xo sc tc S S wT _ _ ((HSW.out.below hbT (Nat.le_refl _)).wider hbT.size) (words_own HNS.out.symm ht) (by rw [HNS.out]; omega)
          rw [decide_eq_true rfl, HNS.out] at hsm
          have HSM := Lib.hid hsm
          clear ht hbT HKS HSW hsm
          go_wp2_with fail
          refine HSM.out.mono ?_
          rintro e wU ⟨rfl, hbU⟩
          have HK9 := Lib.hid (HKT.out.later hbU)
          clear hbU HKT HSM
          go_wp2
          go_loopw [25, 26] (fun bv kv wz => ∃ (k : Nat) (bb : Bool), k ≤ n ∧ kv = .int .i64 k ∧ bv = .bool bb ∧ Hid (bb = ((L.take k).any fun v => inB x v.toNat)) ∧ Hid (Kp w ao qo L Q wz)) (fun _ k _ => n - (intOf k).toNat)
          case atStart => exact ⟨0, false, by omega, rfl, rfl, rfl, HK9.out⟩
          case round =>
            obtain ⟨k, bb, hk, rfl, rfl, HBB, HKz⟩ := hrel
            obtain ⟨wz, rfl⟩ : ∃ wz, wz = wr := ⟨_, rfl⟩
            by_cases hlt2 : k < n
            · have p2 : decide ((k : Int) < (n : Int)) = true := decide_eq_true (by omega)
              obtain ⟨u, hu, hu64, han⟩ := HEL.out k hlt2
              obtain ⟨g, off, hao, hg, hc⟩ := HKz.out.1 (by rw [HL.out.1]; omega)
              have c1 := hc k (by rw [HL.out.1]; exact hlt2)
              rw [hu] at c1
              have HWI := Lib.hid (wordin_any x u hx64 hu64)
              generalize inB x u = iu at *
              have HAN := Lib.hid han
              clear hc hu han
              cases bb with
              | true =>
                have HB2 : Hid (true = ((L.take (k + 1)).any fun v => inB x v.toNat)) := by show _ = _; rw [HAN.out, ← HBB.out]; rfl
                clear c1 hao
                go_wp2
                go_roundw
                case rel => exact ⟨k + 1, true, by omega, by go_num, rfl, HB2.out, HKz.out⟩
                case measure => simp [intOf]; omega
              | false =>
                have HB2 : Hid (iu = ((L.take (k + 1)).any fun v => inB x v.toNat)) := by show _ = _; rw [HAN.out, ← HBB.out]; rfl
                have HAO := Lib.hid hao
                obtain ⟨ap, hap⟩ : ∃ ap, ap = ao := ⟨_, rfl⟩
                have HAPE := Lib.hid hap
                subst hao
                go_wp2_with fail
                refine (HWI.out _).mono ?_
                rintro e wy ⟨rfl, hby⟩
                have HKy := Lib.hid (HKz.out.later hby)
                clear c1 hby HKz
                go_wp2
                go_roundw
                case rel => exact ⟨k + 1, iu, by omega, by go_num, rfl, HB2.out, HKy.out⟩
                case measure => simp [intOf]; omega
            · obtain rfl : k = n := by omega
              have p2 : decide ((k : Int) < (k : Int)) = false := decide_eq_false (by omega)
              have HB2 : Hid (bb = covB L x) := by show _ = _; rw [HBB.out, HEN.out]
              have hcv := hCO.out wz HKz.out.1
              rw [← HB2.out] at hcv
              have HCV := Lib.hid hcv
              clear hcv HBB HB2 hCO HEN HEL
              go_wp2_with fail
              refine HCV.out.mono ?_
              rintro e wy ⟨rfl, hby⟩
              have HKy := Lib.hid (HKz.out.later hby)
              have HRW : Hid (WordsAt wy wy.heap.size a0 raw) := (HRAW.out.2.2.below HKy.out.2.2 (Nat.le_refl _)).wider HKy.out.2.2.size
              have pbb : (bb != bb) = false := by simp
              clear hby HKz HCV
              go_wp2
              go_roundw
              case rel => exact ⟨i + 1, raw, a0, n0, c0, by omega, by omega, by go_num, rfl, ⟨HRAW.out.1, HRAW.out.2.1⟩, HRW.out, HKy.out.2.2⟩
              case measure => simp [intOf]; omega
        · have p5 : decide (SN ≤ 2500) = false := decide_eq_false h25
          have p6 : (SE != 0) = true := by simp [hse]
          clear hse
          go_wp2_with fail
          refine (HSP2.out _ HKS.out.2.1).mono ?_
          rintro e wT ⟨xo, tc, rfl, ht, hbT⟩
          rw [HNS.out]
          rw [HNS.out] at ht
          have HKT := Lib.hid (HKS.out.later hbT)
          have hsm := same_any so xo sc tc S S wT _ _ ((HSW.out.below hbT (Nat.le_refl _)).wider hbT.size) (words_own HNS.out.symm ht) (by rw [HNS.out]; omega)
          rw [decide_eq_true rfl, HNS.out] at hsm
          have HSM := Lib.hid hsm
          clear ht hbT HKS HSW hsm
          go_wp2_with fail
          refine HSM.out.mono ?_
          rintro e wU ⟨rfl, hbU⟩
          have HK9 := Lib.hid (HKT.out.later hbU)
          clear hbU HKT HSM
          go_wp2
          go_loopw [25, 26] (fun bv kv wz => ∃ (k : Nat) (bb : Bool), k ≤ n ∧ kv = .int .i64 k ∧ bv = .bool bb ∧ Hid (bb = ((L.take k).any fun v => inB x v.toNat)) ∧ Hid (Kp w ao qo L Q wz)) (fun _ k _ => n - (intOf k).toNat)
          case atStart => exact ⟨0, false, by omega, rfl, rfl, rfl, HK9.out⟩
          case round =>
            obtain ⟨k, bb, hk, rfl, rfl, HBB, HKz⟩ := hrel
            obtain ⟨wz, rfl⟩ : ∃ wz, wz = wr := ⟨_, rfl⟩
            by_cases hlt2 : k < n
            · have p2 : decide ((k : Int) < (n : Int)) = true := decide_eq_true (by omega)
              obtain ⟨u, hu, hu64, han⟩ := HEL.out k hlt2
              obtain ⟨g, off, hao, hg, hc⟩ := HKz.out.1 (by rw [HL.out.1]; omega)
              have c1 := hc k (by rw [HL.out.1]; exact hlt2)
              rw [hu] at c1
              have HWI := Lib.hid (wordin_any x u hx64 hu64)
              generalize inB x u = iu at *
              have HAN := Lib.hid han
              clear hc hu han
              cases bb with
              | true =>
                have HB2 : Hid (true = ((L.take (k + 1)).any fun v => inB x v.toNat)) := by show _ = _; rw [HAN.out, ← HBB.out]; rfl
                clear c1 hao
                go_wp2
                go_roundw
                case rel => exact ⟨k + 1, true, by omega, by go_num, rfl, HB2.out, HKz.out⟩
                case measure => simp [intOf]; omega
              | false =>
                have HB2 : Hid (iu = ((L.take (k + 1)).any fun v => inB x v.toNat)) := by show _ = _; rw [HAN.out, ← HBB.out]; rfl
                have HAO := Lib.hid hao
                obtain ⟨ap, hap⟩ : ∃ ap, ap = ao := ⟨_, rfl⟩
                have HAPE := Lib.hid hap
                subst hao
                go_wp2_with fail
                refine (HWI.out _).mono ?_
                rintro e wy ⟨rfl, hby⟩
                have HKy := Lib.hid (HKz.out.later hby)
                clear c1 hby HKz
                go_wp2
                go_roundw
                case rel => exact ⟨k + 1, iu, by omega, by go_num, rfl, HB2.out, HKy.out⟩
                case measure => simp [intOf]; omega
            · obtain rfl : k = n := by omega
              have p2 : decide ((k : Int) < (k : Int)) = false := decide_eq_false (by omega)
              have HB2 : Hid (bb = covB L x) := by show _ = _; rw [HBB.out, HEN.out]
              have hcv := hCO.out wz HKz.out.1
              rw [← HB2.out] at hcv
              have HCV := Lib.hid hcv
              clear hcv HBB HB2 hCO HEN HEL
              go_wp2_with fail
              refine HCV.out.mono ?_
              rintro e wy ⟨rfl, hby⟩
              have HKy := Lib.hid (HKz.out.later hby)
              have HRW : Hid (WordsAt wy wy.heap.size a0 raw) := (HRAW.out.2.2.below HKy.out.2.2 (Nat.le_refl _)).wider HKy.out.2.2.size
              have pbb : (bb != bb) = false := by simp
              clear hby HKz HCV
              go_wp2
              go_roundw
              case rel => exact ⟨i + 1, raw, a0, n0, c0, by omega, by omega, by go_num, rfl, ⟨HRAW.out.1, HRAW.out.2.1⟩, HRW.out, HKy.out.2.2⟩
              case measure => simp [intOf]; omega
        · have p5 : decide (SN ≤ 2500) = false := decide_eq_false h25
          have p6 : (SE != 0) = false := by simp [hse]
          have HK9 := HKS
          clear HKS HSW hse HSP2
          go_wp2
          go_loopw [25, 26] (fun bv kv wz => ∃ (k : Nat) (bb : Bool), k ≤ n ∧ kv = .int .i64 k ∧ bv = .bool bb ∧ Hid (bb = ((L.take k).any fun v => inB x v.toNat)) ∧ Hid (Kp w ao qo L Q wz)) (fun _ k _ => n - (intOf k).toNat)
          case atStart => exact ⟨0, false, by omega, rfl, rfl, rfl, HK9.out⟩
          case round =>
            obtain ⟨k, bb, hk, rfl, rfl, HBB, HKz⟩ := hrel
            obtain ⟨wz, rfl⟩ : ∃ wz, wz = wr := ⟨_, rfl⟩
            by_cases hlt2 : k < n
            · have p2 : decide ((k : Int) < (n : Int)) = true := decide_eq_true (by omega)
              obtain ⟨u, hu, hu64, han⟩ := HEL.out k hlt2
              obtain ⟨g, off, hao, hg, hc⟩ := HKz.out.1 (by rw [HL.out.1]; omega)
              have c1 := hc k (by rw [HL.out.1]; exact hlt2)
              rw [hu] at c1
              have HWI := Lib.hid (wordin_any x u hx64 hu64)
              generalize inB x u = iu at *
              have HAN := Lib.hid han
              clear hc hu han
              cases bb with
              | true =>
                have HB2 : Hid (true = ((L.take (k + 1)).any fun v => inB x v.toNat)) := by show _ = _; rw [HAN.out, ← HBB.out]; rfl
                clear c1 hao
                go_wp2
                go_roundw
                case rel => exact ⟨k + 1, true, by omega, by go_num, rfl, HB2.out, HKz.out⟩
                case measure => simp [intOf]; omega
              | false =>
                have HB2 : Hid (iu = ((L.take (k + 1)).any fun v => inB x v.toNat)) := by show _ = _; rw [HAN.out, ← HBB.out]; rfl
                have HAO := Lib.hid hao
                obtain ⟨ap, hap⟩ : ∃ ap, ap = ao := ⟨_, rfl⟩
                have HAPE := Lib.hid hap
                subst hao
                go_wp2_with fail
                refine (HWI.out _).mono ?_
                rintro e wy ⟨rfl, hby⟩
                have HKy := Lib.hid (HKz.out.later hby)
                clear c1 hby HKz
                go_wp2
                go_roundw
                case rel => exact ⟨k + 1, iu, by omega, by go_num, rfl, HB2.out, HKy.out⟩
                case measure => simp [intOf]; omega
            · obtain rfl : k = n := by omega
              have p2 : decide ((k : Int) < (k : Int)) = false := decide_eq_false (by omega)
              have HB2 : Hid (bb = covB L x) := by show _ = _; rw [HBB.out, HEN.out]
              have hcv := hCO.out wz HKz.out.1
              rw [← HB2.out] at hcv
              have HCV := Lib.hid hcv
              clear hcv HBB HB2 hCO HEN HEL
              go_wp2_with fail
              refine HCV.out.mono ?_
              rintro e wy ⟨rfl, hby⟩
              have HKy := Lib.hid (HKz.out.later hby)
              have HRW : Hid (WordsAt wy wy.heap.size a0 raw) := (HRAW.out.2.2.below HKy.out.2.2 (Nat.le_refl _)).wider HKy.out.2.2.size
              have pbb : (bb != bb) = false := by simp
              clear hby HKz HCV
              go_wp2
              go_roundw
              case rel => exact ⟨i + 1, raw, a0, n0, c0, by omega, by omega, by go_num, rfl, ⟨HRAW.out.1, HRAW.out.2.1⟩, HRW.out, HKy.out.2.2⟩
              case measure => simp [intOf]; omega
    · obtain rfl : i = 2 := by omega
      have p1 : decide (((2 : Nat) : Int) < 2) = false := by decide
      have HI2 := HI
      clear HI HW HL
      go_wp2_with fail
      refine (HAW.out _).mono ?_
      rintro e wy ⟨rfl, hby⟩
      have HF := Lib.hid (HI2.out.trans (hby.mono HI2.out.size))
      clear hby HI2
      go_wp2
      go_ret
      exact ⟨rfl, HF.out⟩
end Go.Proofs.YtkjfdaleamonaaaGreat.packTells
