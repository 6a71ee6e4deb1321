/- The walk of the law PackCovers. -/
import Derived.Test.YtkjfdaleamonaaaGreatPackAM
namespace Go.Proofs.YtkjfdaleamonaaaGreat.packCovers
open Go.RowKit Go.Lib Go.Sort Wd

theorem cov_pk {R : Nat} {l : List Int} (hs : Sized R l) {y : E2} (hy : okB R y = true) : covB (packF R l) (wordN R y) = decide ((wordN R y : Int) ∈ l) := by
  obtain ⟨a1, a2, a3⟩ := word_cell hy
  have hR := (okB_parts hy).1
  rw [Bool.eq_iff_iff, decide_eq_true_eq, ← pk_cov hs hy]
  unfold covB
  rw [a1, Bool.true_and, List.any_eq_true]
  have key : ∀ v ∈ packF R l, (wiB (wordN R y) v.toNat = true ↔ (wordN R y : Int) ∈ dsV R v) := fun v hv => by
    obtain ⟨k, hk, z, hz, rfl⟩ := pk_sized hs hv
    obtain ⟨b1, b2, b3⟩ := word_cell hz
    rw [dsV_word' hz, ds_mem (R - k) k z (by omega) hz, Int.toNat_natCast]
    unfold wiB
    rw [b1]
    unfold cvR cvZ winB
    rw [if_pos a1, if_pos a1, if_pos b1, if_pos b1, a2, a3, b2, b3, hy, hz, decide_eq_true (by omega), show ((R : Int) - (k : Int)).toNat = R - k by omega, show k + (R - k) = R by omega]
    simp only [Bool.true_and, decide_eq_true_eq]
    constructor
    · intro h; exact ⟨y, hy, h, rfl⟩
    · rintro ⟨y', hy', h, e⟩
      rw [(word_inj hy hy' (by omega)).2]; exact h
  constructor
  · rintro ⟨v, hv, h⟩; exact ⟨v, hv, (key v hv).1 h⟩
  · rintro ⟨v, hv, h⟩; exact ⟨v, hv, (key v hv).2 h⟩
theorem cov_0 (l : List Int) : covB l 0 = false := by unfold covB; rw [isW0]; rfl
theorem pk_64 {R : Nat} {l : List Int} (hs : Sized R l) : In64 (packF R l) := fun v hv => by
  obtain ⟨k, hk, z, hz, rfl⟩ := pk_sized hs hv
  have := (wordN_lt hz).1
  exact ⟨by omega, by omega⟩
theorem pk_len {R : Nat} {l : List Int} (hs : Sized R l) (hR : R ≤ 12) (hl : l.length ≤ 20000) : (packF R l).length ≤ 20000 := by
  have h1 := pk_sum hs hR
  have h2 := setF_length l
  have h3 : ∀ (R : Nat) (m : List Int), m.length ≤ sumS R m := fun R m => by
    induction m with
    | nil => exact Nat.le_refl _
    | cons v m ih =>
      show m.length + 1 ≤ 7 ^ (R - rW v.toNat) + sumS R m
      have : 0 < 7 ^ (R - rW v.toNat) := Nat.pow_pos (by decide)
      omega
  have := h3 R (packF R l)
  omega
set_option maxRecDepth 100000 in
set_option maxHeartbeats 8000000 in
theorem walk {w : World} (a0 : Option Addr) (n0 c0 : Nat) (z0 : Nat → Int) (h0 : IntsAtK .i64 w w.heap.size a0 n0 z0) (_b0 : ∀ i, i < n0 → (Lit.int .i64 (z0 i)).wf = true) (s0 : n0 * 8 ≤ 140737488351232)
    (a1 : Int) (_w1 : (Lit.int .i64 a1).wf = true) (a2 : Int) (_w2 : (Lit.int .i64 a2).wf = true) (a3 : Int) (_w3 : (Lit.int .i64 a3).wf = true) :
    Calls Tryz.prog 10 #[.slice a0 n0 c0, .int .i64 a1, .int .i64 a2, .int .i64 a3] w fun e w' => e = .returned (.bool true) ∧ Below w.heap.size w w' := by
  have HAW := Lib.hid awake8_any
  by_cases hbig : 16 < n0
  · have q1 : decide (16 < (n0 : Int)) = true := decide_eq_true (by omega)
    have q1n : decide (16 < n0) = true := decide_eq_true hbig
    go_enter Tryz.func10, Tryz.ntmps10
    go_wp2_with fail
    refine (HAW.out _).mono ?_
    rintro e w1 ⟨rfl, hb1⟩
    go_wp2
    go_ret
    exact ⟨rfl, hb1⟩
  · have q1 : decide (16 < (n0 : Int)) = false := decide_eq_false (by omega)
    have q1n : decide (16 < n0) = false := decide_eq_false hbig
    obtain ⟨hr2, hr1⟩ := rem13 a1
    obtain ⟨R, hR, hR12⟩ : ∃ R : Nat, a1 % 13 = R ∧ R ≤ 12 := ⟨(a1 % 13).toNat, by omega, by omega⟩
    rw [hR] at hr1
    obtain ⟨s, hs⟩ : ∃ s, a1.tmod 13 = s := ⟨_, rfl⟩
    rw [hs] at hr1 hr2
    obtain ⟨hr3, hr4⟩ := hr2
    have hwd := words8_any a0 n0 c0 z0 (R : Int) w w.heap.size h0 (Nat.le_refl _) (by omega)
    rw [show ((R : Int) % 13).toNat = R by omega] at hwd
    have HWD := Lib.hid hwd
    have HLW : Hid (∀ w, Calls Tryz.prog 14 #[.int .i64 a2, .int .i64 a3, .int .i64 R] w fun e w' => e = .returned (.int .u64 (wordN R (someE a2 a3 R) : Nat)) ∧ Below w.heap.size w w') := fun w => by
      have h := lword_w a2 a3 (R : Int) w
      rwa [show ((R : Int) % 13).toNat = R by omega] at h
    have HOK : Hid (okB R (someE a2 a3 R) = true) := some_ok a2 a3 hR12
    generalize someE a2 a3 R = z at *
    clear hwd hR h0
    go_enter Tryz.func10, Tryz.ntmps10
    go_wp2_with fail
    refine HWD.out.mono ?_
    rintro e w1 ⟨L, m, ao, c, rfl, hLm, hm, hLs, hLo, hb1⟩
    obtain ⟨g1, g2⟩ := cmp_pack hLs (by omega)
    have hcp := compact_any ao c L w1 w1.heap.size (words_own hLm.symm hLo) (Nat.le_refl _) (by omega) (sized_64 hLs)
    rw [hLm, g1, g2] at hcp
    have hPl := pk_len hLs hR12 (by omega)
    have hP64 := pk_64 hLs
    have HCV : Hid (∀ y, okB R y = true → covB (packF R L) (wordN R y) = decide ((wordN R y : Int) ∈ L)) := fun y hy => cov_pk hLs hy
    have HEL : Hid (∀ k, k < m → ∃ y, L.getD k 0 = (wordN R y : Int) ∧ okB R y = true ∧ (wordN R y : Int) ∈ L) := fun k hk => by
      have hm2 : L.getD k 0 ∈ L := getD_mem (j := k) (by omega)
      obtain ⟨y, hy, e⟩ := hLs _ hm2
      exact ⟨y, e, hy, by rw [← e]; exact hm2⟩
    generalize packF R L = P at *
    obtain ⟨PL, hPL⟩ : ∃ PL, P.length = PL := ⟨_, rfl⟩
    have HCOV : Hid (∀ (po : Option Addr) (pc : Nat) (u : Nat) (wx : World), u < 18446744073709551616 → WordsAt wx wx.heap.size po P → Calls Tryz.prog 32 #[.slice po PL pc, .int .u64 u] wx fun e w' => e = .returned (.bool (covB P u)) ∧ Below wx.heap.size wx w') := fun po pc u wx hu h => by
      have := covers_any po pc P u hu wx wx.heap.size h (Nat.le_refl _) (by omega) hP64
      rwa [hPL] at this
    have HCP := Lib.hid hcp
    have HLO := Lib.hid hLo
    have HLL := Lib.hid hLm
    have HLS := Lib.hid hLs
    have HPL := Lib.hid hPL
    have HB1 := Lib.hid hb1
    clear hcp hLo hLm hLs hPL hb1 g1 g2 hPl hP64
    go_wp2_with fail
    refine HCP.out.mono ?_
    rintro e w2 ⟨po, pc, rfl, hp, hb2⟩
    rw [HPL.out]
    rw [HPL.out] at hp
    have HB2 := Lib.hid (HB1.out.trans (hb2.mono HB1.out.size))
    have HP2 := Lib.hid (words_own HPL.out.symm hp)
    have HL2 := Lib.hid (own_later HLO.out hb2)
    clear hp hb2 HB1 HLO HCP
    go_wp2
    go_loopw [12] (fun i wr => ∃ k : Nat, k ≤ m ∧ i = .int .i64 k ∧ Hid (WordsAt wr wr.heap.size po P) ∧ Hid (wr.ownsRow w.heap.size 25 1 (.slice ao m c) m (uV L)) ∧ Hid (Below w.heap.size w wr)) (fun i _ => m - (intOf i).toNat)
    case atStart => exact ⟨0, by omega, rfl, HP2.out, HL2.out, HB2.out⟩
    case round =>
      obtain ⟨k, hk, rfl, HP, HL, HI⟩ := hrel
      obtain ⟨wo, rfl⟩ : ∃ wo, wo = wr := ⟨_, rfl⟩
      have hsz := HI.out.size
      have key : (k < m ∧ k < 40) ∨ (decide ((k : Int) < (m : Int)) = false) ∨ (decide ((k : Int) < (m : Int)) = true ∧ decide ((k : Int) < 40) = false ∧ decide (k < 40) = false) := by
        by_cases h1 : k < m
        · by_cases h2 : k < 40
          · exact .inl ⟨h1, h2⟩
          · exact .inr (.inr ⟨decide_eq_true (by omega), decide_eq_false (by omega), decide_eq_false h2⟩)
        · exact .inr (.inl (decide_eq_false (by omega)))
      rcases key with ⟨h1, h2⟩ | hend
      · have q2 : decide ((k : Int) < (m : Int)) = true := decide_eq_true (by omega)
        have q3 : decide ((k : Int) < 40) = true := decide_eq_true (by omega)
        have q3n : decide (k < 40) = true := decide_eq_true h2
        obtain ⟨b, off, hao, hb, hc⟩ := words_own HLL.out.symm HL.out (by rw [HLL.out]; omega)
        have c1 := hc k (by rw [HLL.out]; exact h1)
        obtain ⟨y, e1, e2, e3⟩ := HEL.out k h1
        rw [e1] at c1
        have hcov := HCOV.out po pc (wordN R y) wo (by have := (wordN_lt e2).1; omega) HP.out
        rw [HCV.out y e2, decide_eq_true e3] at hcov
        have HCC := Lib.hid hcov
        generalize wordN R y = V at *
        have HAO := Lib.hid hao
        clear hc e1 e2 e3 hcov
        subst hao
        go_wp2_with fail
        refine HCC.out.mono ?_
        rintro e w3 ⟨rfl, hb3⟩
        have HP3 := Lib.hid ((HP.out.below hb3 (Nat.le_refl _)).wider hb3.size)
        have HL3 := Lib.hid (own_later HL.out hb3)
        have HB3 := Lib.hid (HI.out.trans (hb3.mono hsz))
        clear hb3 c1 HCC HP HL HI
        go_wp2
        go_roundw
        case rel => exact ⟨k + 1, by omega, by go_num, HP3.out, HL3.out, HB3.out⟩
        case measure => simp [intOf]; omega
      · have hco := HCOV.out po pc (wordN R z) 
        have hset := fun wx (h : WordsAt wx wx.heap.size ao L) => rset_own ao c L wx h (by rw [HLL.out]; omega)
        rw [HLL.out] at hset
        obtain ⟨SL, hSL⟩ : ∃ SL, (setF L).length = SL := ⟨_, rfl⟩
        have hsl := setF_length L
        rw [HLL.out] at hsl
        have HHAS : Hid (∀ ao c w x, WordsAt w w.heap.size ao (setF L) → Calls Tryz.prog 33 #[.slice ao SL c, .int .u64 x] w fun e w' => e = .returned (.bool (decide (x ∈ L))) ∧ w = w') := fun ao c w x h => by
          have := rhas_any ao c (setF L) x w _ h (by omega) (setF_up L).rising
          rw [hSL, show hasF (setF L) x = decide (x ∈ L) by rw [Bool.eq_iff_iff, hasF_iff, setF_mem, decide_eq_true_eq]] at this
          exact this
        have HSET : Hid (∀ wx, WordsAt wx wx.heap.size ao L → Calls Tryz.prog 21 #[.slice ao m c] wx fun e w' => ∃ ao c, e = .returned (.slice ao SL c) ∧ WordsAt w' w'.heap.size ao (setF L) ∧ Below wx.heap.size wx w') := fun wx h => by
          refine (hset wx h).mono ?_
          rintro e w' ⟨a, b, rfl, ho, hb⟩
          rw [hSL] at ho ⊢
          exact ⟨a, b, rfl, words_own hSL.symm ho, hb⟩
        have HCW : Hid (∀ wx, WordsAt wx wx.heap.size po P → Calls Tryz.prog 32 #[.slice po PL pc, .int .u64 (wordN R z : Nat)] wx fun e w' => e = .returned (.bool (decide ((wordN R z : Int) ∈ L))) ∧ Below wx.heap.size wx w') := fun wx h => by
          have := hco wx (by have := (wordN_lt HOK.out).1; omega) h
          rwa [HCV.out z HOK.out] at this
        have HC0 : Hid (∀ wx, WordsAt wx wx.heap.size po P → Calls Tryz.prog 32 #[.slice po PL pc, .int .u64 0] wx fun e w' => e = .returned (.bool false) ∧ Below wx.heap.size wx w') := fun wx h => by
          have := HCOV.out po pc 0 wx (by omega) h
          rwa [cov_0] at this
        have HHAS2 := Lib.hid (fun ao c w h => HHAS.out ao c w (wordN R z : Int) h)
        clear hco hset hsl HCOV HCV HEL HHAS hSL
        generalize decide ((wordN R z : Int) ∈ L) = o at *
        generalize wordN R z = V at *
        generalize setF L = SS at *
        have q9 : (o == o) = true := by cases o <;> rfl
        have hk40 : k < m → 40 ≤ k := fun h => by
          rcases hend with h2 | ⟨-, -, h2⟩
          · have := of_decide_eq_false h2; omega
          · have := of_decide_eq_false h2; omega
        clear hend
        by_cases hkm : k < m
        all_goals
          have q2 : decide ((k : Int) < (m : Int)) = decide (k < m) := by rw [decide_eq_decide]; omega
          first
            | (have q3 := hk40 hkm
               have q4 : decide ((k : Int) < 40) = false := decide_eq_false (by omega)
               have q4n : decide (k < 40) = false := decide_eq_false (by omega)
               rw [decide_eq_true hkm] at q2)
            | (rw [decide_eq_false hkm] at q2)
          clear hk40
          go_wp2_with fail
          refine (HLW.out _).mono ?_
          rintro e w3 ⟨rfl, hb3⟩
          have HP3 := Lib.hid ((HP.out.below hb3 (Nat.le_refl _)).wider hb3.size)
          have HL3 := Lib.hid (own_later HL.out hb3)
          have HB3 := Lib.hid (HI.out.trans (hb3.mono hsz))
          have HCW3 := Lib.hid (HCW.out w3 HP3.out)
          clear hb3 HP HL HI HCW
          go_wp2_with fail
          refine HCW3.out.mono ?_
          rintro e w4 ⟨rfl, hb4⟩
          have HP4 := Lib.hid ((HP3.out.below hb4 (Nat.le_refl _)).wider hb4.size)
          have HL4 := Lib.hid (own_later HL3.out hb4)
          have HB4 := Lib.hid (HB3.out.trans (hb4.mono HB3.out.size))
          have HS4 := Lib.hid (HSET.out w4 (words_own HLL.out.symm HL4.out))
          clear hb4 HP3 HL3 HB3 HCW3 HSET
          go_wp2_with fail
          refine HS4.out.mono ?_
          rintro e w5 ⟨so, sc, rfl, hs5, hb5⟩
          have HP5 := Lib.hid ((HP4.out.below hb5 (Nat.le_refl _)).wider hb5.size)
          have HB5 := Lib.hid (HB4.out.trans (hb5.mono HB4.out.size))
          have HH5 := Lib.hid (HHAS2.out so sc w5 hs5)
          have HC5 := Lib.hid (HC0.out w5 HP5.out)
          clear hb5 hs5 HP4 HL4 HB4 HS4 HHAS2 HC0
          go_wp2_with fail
          refine HH5.out.mono ?_
          rintro e w6 ⟨rfl, rfl⟩
          go_wp2_with fail
          refine HC5.out.mono ?_
          rintro e w7 ⟨rfl, hb7⟩
          have HB7 := Lib.hid (HB5.out.trans (hb7.mono HB5.out.size))
          clear hb7 HB5 HC5 HH5 HP5
          go_wp2_with fail
          refine (HAW.out _).mono ?_
          rintro e w8 ⟨rfl, hb8⟩
          have hb := HB7.out.trans (hb8.mono HB7.out.size)
          clear hb8 HB7
          go_wp2
          go_ret
          exact ⟨rfl, hb⟩
end Go.Proofs.YtkjfdaleamonaaaGreat.packCovers
