/- The walk of the law PackJoins. -/
import Derived.Test.YtkjfdaleamonaaaGreatPackAM
import Derived.Test.YtkjfdaleamonaaaGreatPackAN
import Derived.Test.YtkjfdaleamonaaaGreatPackAL
namespace Go.Proofs.YtkjfdaleamonaaaGreat.packJoins
open Go.RowKit Go.Lib Go.Sort Wd

theorem sum_app (R : Nat) (a b : List Int) : sumS R (a ++ b) = sumS R a + sumS R b := sumS_append R a b
theorem pk_join {R : Nat} {l : List Int} (hs : Sized R l) (hR : R ≤ 12) (hl : l.length ≤ 20000) (k : Nat) :
    sprE (packF R (l.take k) ++ packF R (l.drop k)) R = 0 ∧ sprL (packF R (l.take k) ++ packF R (l.drop k)) R = setF l := by
  have h1 : Sized R (l.take k) := fun v hv => hs v (List.mem_of_mem_take hv)
  have h2 : Sized R (l.drop k) := fun v hv => hs v (List.mem_of_mem_drop hv)
  have e1 := setF_length (l.take k)
  have e2 := setF_length (l.drop k)
  have e3 : (l.take k).length + (l.drop k).length = l.length := by rw [← List.length_append, List.take_append_drop]
  obtain ⟨-, -, f3, f4⟩ := pk_sz (l := l) (m := packF R (l.take k) ++ packF R (l.drop k)) hR (fun v hv => (List.mem_append.1 hv).elim (pk_sized h1) (pk_sized h2)) (by rw [sum_app, pk_sum h1 hR, pk_sum h2 hR]; omega)
  refine ⟨f3, ?_⟩
  rw [f4]
  refine (setF_up _).ext (setF_up _) fun t => ?_
  rw [setF_mem, setF_mem, List.flatMap_append, List.mem_append, pk_mem h1 hR, pk_mem h2 hR, ← List.mem_append, List.take_append_drop]
set_option maxRecDepth 100000 in
set_option maxHeartbeats 8000000 in
theorem walk {w : World} (a0 : Option Addr) (n0 c0 : Nat) (z0 : Nat → Int) (h0 : IntsAtK .i64 w w.heap.size a0 n0 z0) (_b0 : ∀ i, i < n0 → (Lit.int .i64 (z0 i)).wf = true) (s0 : n0 * 8 ≤ 140737488351232)
    (a1 : Int) (_w1 : (Lit.int .i64 a1).wf = true) (a2 : Int) (_w2 : (Lit.int .i64 a2).wf = true) :
    Calls Tryz.prog 6 #[.slice a0 n0 c0, .int .i64 a1, .int .i64 a2] w fun e w' => e = .returned (.bool true) ∧ Below w.heap.size w w' := by
  have HAW := Lib.hid awake8_any
  by_cases hbig : 16 < n0
  · have q1 : decide (16 < (n0 : Int)) = true := decide_eq_true (by omega)
    have q1n : decide (16 < n0) = true := decide_eq_true hbig
    go_enter Tryz.func6, Tryz.ntmps6
    go_wp2_with fail
    refine (HAW.out _).mono ?_
    rintro e w1 ⟨rfl, hb1⟩
    go_wp2
    go_ret
    exact ⟨rfl, hb1⟩
  · have q1 : decide (16 < (n0 : Int)) = false := decide_eq_false (by omega)
    have q1n : decide (16 < n0) = false := decide_eq_false hbig
    obtain ⟨hr2, hr1⟩ := rem13 a1
    obtain ⟨R, hR, hR12⟩ : ∃ R : Nat, a1 % 13 = R ∧ R ≤ 12 := ⟨(a1 % 13).toNat, by omega, by omega⟩
    rw [hR] at hr1
    obtain ⟨s, hs⟩ : ∃ s, a1.tmod 13 = s := ⟨_, rfl⟩
    rw [hs] at hr1 hr2
    obtain ⟨hr3, hr4⟩ := hr2
    have hwd := words8_any a0 n0 c0 z0 (R : Int) w w.heap.size h0 (Nat.le_refl _) (by omega)
    rw [show ((R : Int) % 13).toNat = R by omega] at hwd
    have HWD := Lib.hid hwd
    obtain ⟨t, et, ht⟩ : ∃ e : Nat, bits BinOp.and IntKind.i64 a2 65535 = (e : Int) ∧ e ≤ 65535 := ⟨(a2 % 65536).toNat, by rw [i64_and_mask a2 16 (by omega) 65535 rfl]; omega, by omega⟩
    clear hwd hR h0
    go_enter Tryz.func6, Tryz.ntmps6
    go_wp2_with fail
    refine HWD.out.mono ?_
    rintro e w1 ⟨L, m, ao, c, rfl, hLm, hm, hLs, hLo, hb1⟩
    obtain ⟨k, hk, hkm⟩ : ∃ p : Nat, (t : Int).tmod ((m : Int) + 1) = (p : Int) ∧ p ≤ m := ⟨t % (m + 1), by rw [Int.tmod_eq_emod_of_nonneg (by omega), Int.natCast_emod, Int.natCast_add]; rfl, by have := Nat.mod_lt t (show 0 < m + 1 by omega); omega⟩
    have HCP : Hid (∀ (M : List Int) (x : Nat) mo mc wx, M.length = x → x ≤ 20000 → Sized R M → WordsAt wx wx.heap.size mo M → Calls Tryz.prog 26 #[.slice mo x mc] wx (ToldP wx (packF R M) 0)) := fun M x mo mc wx hx hx2 hM h => by
      obtain ⟨g1, g2⟩ := cmp_pack hM (by omega)
      have := compact_any mo mc M wx wx.heap.size h (Nat.le_refl _) (by omega) (sized_64 hM)
      rwa [hx, g1, g2] at this
    have hsl := setF_length L
    have hA : Sized R (L.take k) := fun v hv => hLs v (List.mem_of_mem_take hv)
    have hB : Sized R (L.drop k) := fun v hv => hLs v (List.mem_of_mem_drop hv)
    have hlt : (L.take k).length = k := by rw [List.length_take]; omega
    have hld : (L.drop k).length = m - k := by rw [List.length_drop]; omega
    have HCA := Lib.hid (fun mo mc wx h => HCP.out (L.take k) k mo mc wx hlt (by omega) hA h)
    have HCB := Lib.hid (fun mo mc wx h => HCP.out (L.drop k) (m - k) mo mc wx hld (by omega) hB h)
    have HCL := Lib.hid (fun mo mc wx h => HCP.out L m mo mc wx hLm (by omega) hLs h)
    have hCS := fun mo mc wx h => HCP.out (setF L) (setF L).length mo mc wx rfl (by omega) (sized_set hLs) h
    rw [pk_mem_eq (fun v => setF_mem L v)] at hCS
    have HCS := Lib.hid hCS
    obtain ⟨j1, j2⟩ := pk_join hLs hR12 (by omega) k
    have hPA := pk_len hA hR12 (by omega)
    have hPB := pk_len hB hR12 (by omega)
    have hPL := pk_len hLs hR12 (by omega)
    have h64A := pk_64 hA
    have h64B := pk_64 hB
    have HWL : Hid (∀ wx, WordsAt wx wx.heap.size ao L → WordsAt wx wx.heap.size ao (L.take k)) := fun wx h => words_front h k
    generalize packF R (L.take k) = PA at *
    generalize packF R (L.drop k) = PB at *
    generalize packF R L = P at *
    have HSP : Hid (∀ (mo : Option Addr) (mc x : Nat) (wx : World), (PA ++ PB).length = x → WordsAt wx wx.heap.size mo (PA ++ PB) → Calls Tryz.prog 25 #[.slice mo x mc, .int .i64 R] wx (ToldS wx (setF L) 0)) := fun mo mc x wx hx h => by
      have := spread_any mo mc (PA ++ PB) R wx wx.heap.size h (Nat.le_refl _) (by rw [List.length_append]; omega) (fun v hv => (List.mem_append.1 hv).elim (h64A v) (h64B v))
      rwa [hx, j1, j2] at this
    have HSET : Hid (∀ (mo : Option Addr) (mc : Nat) (wx : World), WordsAt wx wx.heap.size mo L → Calls Tryz.prog 21 #[.slice mo m mc] wx (JoinedO wx (setF L))) := fun mo mc wx h => by
      have := rset_own mo mc L wx h (by omega)
      rwa [hLm] at this
    have HSAME : Hid (∀ (Q : List Int) ao c bo d wx, Q.length ≤ 1000000 → WordsAt wx wx.heap.size ao Q → WordsAt wx wx.heap.size bo Q → Calls Tryz.prog 24 #[.slice ao Q.length c, .slice bo Q.length d] wx fun e w' => e = .returned (.bool true) ∧ Below wx.heap.size wx w') := fun Q ao c bo d wx h3 h1 h2 => by
      have := same_any ao bo c d Q Q wx _ _ h1 h2 (by omega)
      rwa [decide_eq_true rfl] at this
    have HLO := Lib.hid hLo
    have HLL := Lib.hid hLm
    have HB1 := Lib.hid hb1
    have hs1 := hb1.size
    have hsl2 : (setF L).length ≤ 1000000 := by omega
    have hPL2 : P.length ≤ 1000000 := by omega
    have hab : PA.length + PB.length ≤ 100000 := by omega
    have k1 : k ≤ m := hkm
    have k2 : (k : Int) ≤ (m : Int) := by omega
    have hcase : (ao = none ∧ m = 0 ∧ c = 0 ∧ k = 0) ∨ ∃ g, ao = some ⟨g, 0, none⟩ ∧ k ≤ c ∧ m ≤ c := by
      rcases hLo.2 with ⟨e, e2⟩ | ⟨g, cap, cur, e, -, -, hcap, -⟩
      · cases e; exact .inl ⟨rfl, e2, rfl, by omega⟩
      · cases e; exact .inr ⟨g, rfl, by omega, hcap⟩
    clear hCS hLo hLm hb1 hLs HWD hA hB hlt hld j1 j2 h64A h64B HCP hsl hPA hPB hPL
    rcases hcase with ⟨rfl, rfl, rfl, rfl⟩ | ⟨g, rfl, hkc, hmc⟩
    · go_wp2_with fail
      refine (HCA.out _ _ _ (HWL.out _ (words_own HLL.out.symm HLO.out))).mono ?_
      rintro e w2 ⟨pa, ca, rfl, hpa, hb2⟩
      have HB2 := Lib.hid (HB1.out.trans (hb2.mono hs1))
      have HL2 := Lib.hid (own_later HLO.out hb2)
      have HA2 := Lib.hid hpa
      clear hpa hb2 HB1 HLO HCA HWL
      go_wp2_with fail
      refine (HCB.out _ _ _ ((fun h0 => by rw [List.length_drop, HLL.out] at h0; omega))).mono ?_
      rintro e w3 ⟨pb, cb, rfl, hpb, hb3⟩
      have HB3 := Lib.hid (HB2.out.trans (hb3.mono HB2.out.size))
      have HL3 := Lib.hid (own_later HL2.out hb3)
      have HA3 := Lib.hid (own_later HA2.out hb3)
      have HBB3 := Lib.hid hpb
      clear hpb hb3 HB2 HL2 HA2 HCB
      go_wp2_with fail
      refine (HCL.out _ _ _ (words_own HLL.out.symm HL3.out)).mono ?_
      rintro e w4 ⟨pl, cl, rfl, hpl, hb4⟩
      have HB4 := Lib.hid (HB3.out.trans (hb4.mono HB3.out.size))
      have HL4 := Lib.hid (own_later HL3.out hb4)
      have HA4 := own_later HA3.out hb4
      have HBB4 := own_later HBB3.out hb4
      have HP4 := Lib.hid (words_own rfl hpl)
      have hs4 := HB4.out.size
      obtain ⟨x1, wA, hrA, hA, hgA⟩ := append_words (w := w4.alloc (.cells #[] 25)) (base := w4.heap.size) (n := 0) (v := .slice (some ⟨w4.heap.size, 0, none⟩) 0 0) (xs := []) (l := PA) (ao := pa) (m := PA.length) (c := ca)
        (World.ownsRow_made w4 #[] 0 (Nat.le_refl _) (Nat.zero_le _) (by simp)) (words_own rfl (HA4.alloc (.cells #[] 25))) rfl (own_none HA4) (by simp) (by omega)
      rw [Nat.zero_add, List.nil_append] at hA
      have hba : Below w4.heap.size w4 wA := ((Below.refl _ w4).alloc (Nat.le_refl _) _).grown hgA (by simp) (by intro k hk; simp [Value.ownBlock] at hk; omega)
      have hWB : WordsAt wA wA.heap.size pb PB := ((words_own rfl HBB4).below hba (Nat.le_refl _)).wider hba.size
      obtain ⟨x2, wB, hrB, hB, hgB⟩ := append_words (w := wA) (base := w4.heap.size) (n := PA.length) (v := x1) (xs := PA) (l := PB) (ao := pb) (m := PB.length) (c := cb) hA hWB rfl (own_none HBB4) hba.size (by omega)
      have hbb : Below w4.heap.size w4 wB := below_append hba hA hba.size hgB
      obtain ⟨xo, xc, rfl, -⟩ := own_form hB
      have HR1 := Lib.hid hrA
      have HR2 := Lib.hid hrB
      have HB5 := Lib.hid (HB4.out.trans (hbb.mono hs4))
      have HL5 := Lib.hid (own_later HL4.out hbb)
      have HP5 := Lib.hid ((HP4.out.below hbb (Nat.le_refl _)).wider hbb.size)
      have HSP5 := Lib.hid (HSP.out xo xc (PA.length + PB.length) wB List.length_append (words_own (by rw [List.length_append]) hB))
      clear hpl hb4 hA hgA hrA hrB hB hgB hba hbb hWB HA4 HBB4 HA3 HBB3 HL3 HB3 HCL HB4 HL4 HP4 HSP
      go_wp2_with (at_builtin; first | refine wpList_append_want _ (by kernel_rfl) (.tmp 56) (.tmp 57) 22 22 rfl _ _ rfl rfl _ _ HR1.out ?_ | refine wpList_append_want _ (by kernel_rfl) (.tmp 58) (.tmp 59) 22 22 rfl _ _ rfl rfl _ _ HR2.out ?_)
      refine HSP5.out.mono ?_
      rintro e w6 ⟨so, sc, rfl, -, hws, hb6⟩
      have HB6 := Lib.hid (HB5.out.trans (hb6.mono HB5.out.size))
      have HL6 := Lib.hid (own_later HL5.out hb6)
      have HP6 := Lib.hid ((HP5.out.below hb6 (Nat.le_refl _)).wider hb6.size)
      have HS6 := Lib.hid hws
      clear hws hb6 HB5 HL5 HP5 HSP5 HR1 HR2
      go_wp2_with fail
      refine (HCS.out _ _ _ HS6.out).mono ?_
      rintro e w7 ⟨yo, yc, rfl, hy7, hb7⟩
      have HB7 := Lib.hid (HB6.out.trans (hb7.mono HB6.out.size))
      have HL7 := Lib.hid (own_later HL6.out hb7)
      have HP7 := Lib.hid ((HP6.out.below hb7 (Nat.le_refl _)).wider hb7.size)
      have HS7 := Lib.hid ((HS6.out.below hb7 (Nat.le_refl _)).wider hb7.size)
      have HY7 := Lib.hid (words_own rfl hy7)
      clear hy7 hb7 HB6 HL6 HP6 HS6 HCS
      go_wp2_with fail
      refine (HSET.out _ _ _ (words_own HLL.out.symm HL7.out)).mono ?_
      rintro e w8 ⟨tto, tc, rfl, ht8, hb8⟩
      have HB8 := Lib.hid (HB7.out.trans (hb8.mono HB7.out.size))
      have HP8 := Lib.hid ((HP7.out.below hb8 (Nat.le_refl _)).wider hb8.size)
      have HS8 := Lib.hid ((HS7.out.below hb8 (Nat.le_refl _)).wider hb8.size)
      have HY8 := Lib.hid ((HY7.out.below hb8 (Nat.le_refl _)).wider hb8.size)
      have HT8 := Lib.hid (words_own rfl ht8)
      have HSA := Lib.hid (HSAME.out (setF L) so sc tto tc w8 hsl2 HS8.out HT8.out)
      clear ht8 hb8 HB7 HL7 HP7 HS7 HY7 HSET
      go_wp2_with fail
      refine HSA.out.mono ?_
      rintro e w9 ⟨rfl, hb9⟩
      have HB9 := Lib.hid (HB8.out.trans (hb9.mono HB8.out.size))
      have HP9 := Lib.hid ((HP8.out.below hb9 (Nat.le_refl _)).wider hb9.size)
      have HY9 := Lib.hid ((HY8.out.below hb9 (Nat.le_refl _)).wider hb9.size)
      have HSB := Lib.hid (HSAME.out P yo yc pl cl w9 hPL2 HY9.out HP9.out)
      clear hb9 HB8 HP8 HY8 HS8 HT8 HSA
      go_wp2_with fail
      refine HSB.out.mono ?_
      rintro e w10 ⟨rfl, hb10⟩
      have HB10 := Lib.hid (HB9.out.trans (hb10.mono HB9.out.size))
      clear hb10 HB9 HP9 HY9 HSB
      go_wp2_with fail
      refine (HAW.out _).mono ?_
      rintro e w11 ⟨rfl, hb11⟩
      have hb := HB10.out.trans (hb11.mono HB10.out.size)
      clear hb11 HB10
      go_wp2
      go_ret
      exact ⟨rfl, hb⟩
    · by_cases hck : c = k
      · obtain rfl : k = m := by omega
        subst hck
        clear hkc hmc hkm k1 k2
        have k1 : c ≤ c := Nat.le_refl _
        have k3 : c - c = 0 := Nat.sub_self _
        rw [k3] at HCB
        clear k3
        go_wp2_with fail
        refine (HCA.out _ _ _ (HWL.out _ (words_own HLL.out.symm HLO.out))).mono ?_
        rintro e w2 ⟨pa, ca, rfl, hpa, hb2⟩
        have HB2 := Lib.hid (HB1.out.trans (hb2.mono hs1))
        have HL2 := Lib.hid (own_later HLO.out hb2)
        have HA2 := Lib.hid hpa
        clear hpa hb2 HB1 HLO HCA HWL
        go_wp2_with fail
        refine (HCB.out _ _ _ ((fun h0 => by rw [List.length_drop, HLL.out] at h0; omega))).mono ?_
        rintro e w3 ⟨pb, cb, rfl, hpb, hb3⟩
        have HB3 := Lib.hid (HB2.out.trans (hb3.mono HB2.out.size))
        have HL3 := Lib.hid (own_later HL2.out hb3)
        have HA3 := Lib.hid (own_later HA2.out hb3)
        have HBB3 := Lib.hid hpb
        clear hpb hb3 HB2 HL2 HA2 HCB
        go_wp2_with fail
        refine (HCL.out _ _ _ (words_own HLL.out.symm HL3.out)).mono ?_
        rintro e w4 ⟨pl, cl, rfl, hpl, hb4⟩
        have HB4 := Lib.hid (HB3.out.trans (hb4.mono HB3.out.size))
        have HL4 := Lib.hid (own_later HL3.out hb4)
        have HA4 := own_later HA3.out hb4
        have HBB4 := own_later HBB3.out hb4
        have HP4 := Lib.hid (words_own rfl hpl)
        have hs4 := HB4.out.size
        obtain ⟨x1, wA, hrA, hA, hgA⟩ := append_words (w := w4.alloc (.cells #[] 25)) (base := w4.heap.size) (n := 0) (v := .slice (some ⟨w4.heap.size, 0, none⟩) 0 0) (xs := []) (l := PA) (ao := pa) (m := PA.length) (c := ca)
          (World.ownsRow_made w4 #[] 0 (Nat.le_refl _) (Nat.zero_le _) (by simp)) (words_own rfl (HA4.alloc (.cells #[] 25))) rfl (own_none HA4) (by simp) (by omega)
        rw [Nat.zero_add, List.nil_append] at hA
        have hba : Below w4.heap.size w4 wA := ((Below.refl _ w4).alloc (Nat.le_refl _) _).grown hgA (by simp) (by intro k hk; simp [Value.ownBlock] at hk; omega)
        have hWB : WordsAt wA wA.heap.size pb PB := ((words_own rfl HBB4).below hba (Nat.le_refl _)).wider hba.size
        obtain ⟨x2, wB, hrB, hB, hgB⟩ := append_words (w := wA) (base := w4.heap.size) (n := PA.length) (v := x1) (xs := PA) (l := PB) (ao := pb) (m := PB.length) (c := cb) hA hWB rfl (own_none HBB4) hba.size (by omega)
        have hbb : Below w4.heap.size w4 wB := below_append hba hA hba.size hgB
        obtain ⟨xo, xc, rfl, -⟩ := own_form hB
        have HR1 := Lib.hid hrA
        have HR2 := Lib.hid hrB
        have HB5 := Lib.hid (HB4.out.trans (hbb.mono hs4))
        have HL5 := Lib.hid (own_later HL4.out hbb)
        have HP5 := Lib.hid ((HP4.out.below hbb (Nat.le_refl _)).wider hbb.size)
        have HSP5 := Lib.hid (HSP.out xo xc (PA.length + PB.length) wB List.length_append (words_own (by rw [List.length_append]) hB))
        clear hpl hb4 hA hgA hrA hrB hB hgB hba hbb hWB HA4 HBB4 HA3 HBB3 HL3 HB3 HCL HB4 HL4 HP4 HSP
        go_wp2_with (at_builtin; first | refine wpList_append_want _ (by kernel_rfl) (.tmp 56) (.tmp 57) 22 22 rfl _ _ rfl rfl _ _ HR1.out ?_ | refine wpList_append_want _ (by kernel_rfl) (.tmp 58) (.tmp 59) 22 22 rfl _ _ rfl rfl _ _ HR2.out ?_)
        refine HSP5.out.mono ?_
        rintro e w6 ⟨so, sc, rfl, -, hws, hb6⟩
        have HB6 := Lib.hid (HB5.out.trans (hb6.mono HB5.out.size))
        have HL6 := Lib.hid (own_later HL5.out hb6)
        have HP6 := Lib.hid ((HP5.out.below hb6 (Nat.le_refl _)).wider hb6.size)
        have HS6 := Lib.hid hws
        clear hws hb6 HB5 HL5 HP5 HSP5 HR1 HR2
        go_wp2_with fail
        refine (HCS.out _ _ _ HS6.out).mono ?_
        rintro e w7 ⟨yo, yc, rfl, hy7, hb7⟩
        have HB7 := Lib.hid (HB6.out.trans (hb7.mono HB6.out.size))
        have HL7 := Lib.hid (own_later HL6.out hb7)
        have HP7 := Lib.hid ((HP6.out.below hb7 (Nat.le_refl _)).wider hb7.size)
        have HS7 := Lib.hid ((HS6.out.below hb7 (Nat.le_refl _)).wider hb7.size)
        have HY7 := Lib.hid (words_own rfl hy7)
        clear hy7 hb7 HB6 HL6 HP6 HS6 HCS
        go_wp2_with fail
        refine (HSET.out _ _ _ (words_own HLL.out.symm HL7.out)).mono ?_
        rintro e w8 ⟨tto, tc, rfl, ht8, hb8⟩
        have HB8 := Lib.hid (HB7.out.trans (hb8.mono HB7.out.size))
        have HP8 := Lib.hid ((HP7.out.below hb8 (Nat.le_refl _)).wider hb8.size)
        have HS8 := Lib.hid ((HS7.out.below hb8 (Nat.le_refl _)).wider hb8.size)
        have HY8 := Lib.hid ((HY7.out.below hb8 (Nat.le_refl _)).wider hb8.size)
        have HT8 := Lib.hid (words_own rfl ht8)
        have HSA := Lib.hid (HSAME.out (setF L) so sc tto tc w8 hsl2 HS8.out HT8.out)
        clear ht8 hb8 HB7 HL7 HP7 HS7 HY7 HSET
        go_wp2_with fail
        refine HSA.out.mono ?_
        rintro e w9 ⟨rfl, hb9⟩
        have HB9 := Lib.hid (HB8.out.trans (hb9.mono HB8.out.size))
        have HP9 := Lib.hid ((HP8.out.below hb9 (Nat.le_refl _)).wider hb9.size)
        have HY9 := Lib.hid ((HY8.out.below hb9 (Nat.le_refl _)).wider hb9.size)
        have HSB := Lib.hid (HSAME.out P yo yc pl cl w9 hPL2 HY9.out HP9.out)
        clear hb9 HB8 HP8 HY8 HS8 HT8 HSA
        go_wp2_with fail
        refine HSB.out.mono ?_
        rintro e w10 ⟨rfl, hb10⟩
        have HB10 := Lib.hid (HB9.out.trans (hb10.mono HB9.out.size))
        clear hb10 HB9 HP9 HY9 HSB
        go_wp2_with fail
        refine (HAW.out _).mono ?_
        rintro e w11 ⟨rfl, hb11⟩
        have hb := HB10.out.trans (hb11.mono HB10.out.size)
        clear hb11 HB10
        go_wp2
        go_ret
        exact ⟨rfl, hb⟩
      · have HWA : Hid (∀ wx, WordsAt wx wx.heap.size (some ⟨g, 0, none⟩) L → WordsAt wx wx.heap.size (some ⟨g, k, none⟩) (L.drop k)) := fun wx h => by
          have := words_tail h k
          rwa [Nat.zero_add] at this
        go_wp2_with fail
        refine (HCA.out _ _ _ (HWL.out _ (words_own HLL.out.symm HLO.out))).mono ?_
        rintro e w2 ⟨pa, ca, rfl, hpa, hb2⟩
        have HB2 := Lib.hid (HB1.out.trans (hb2.mono hs1))
        have HL2 := Lib.hid (own_later HLO.out hb2)
        have HA2 := Lib.hid hpa
        clear hpa hb2 HB1 HLO HCA HWL
        go_wp2_with fail
        refine (HCB.out _ _ _ (HWA.out _ (words_own HLL.out.symm HL2.out))).mono ?_
        rintro e w3 ⟨pb, cb, rfl, hpb, hb3⟩
        have HB3 := Lib.hid (HB2.out.trans (hb3.mono HB2.out.size))
        have HL3 := Lib.hid (own_later HL2.out hb3)
        have HA3 := Lib.hid (own_later HA2.out hb3)
        have HBB3 := Lib.hid hpb
        clear hpb hb3 HB2 HL2 HA2 HCB
        go_wp2_with fail
        refine (HCL.out _ _ _ (words_own HLL.out.symm HL3.out)).mono ?_
        rintro e w4 ⟨pl, cl, rfl, hpl, hb4⟩
        have HB4 := Lib.hid (HB3.out.trans (hb4.mono HB3.out.size))
        have HL4 := Lib.hid (own_later HL3.out hb4)
        have HA4 := own_later HA3.out hb4
        have HBB4 := own_later HBB3.out hb4
        have HP4 := Lib.hid (words_own rfl hpl)
        have hs4 := HB4.out.size
        obtain ⟨x1, wA, hrA, hA, hgA⟩ := append_words (w := w4.alloc (.cells #[] 25)) (base := w4.heap.size) (n := 0) (v := .slice (some ⟨w4.heap.size, 0, none⟩) 0 0) (xs := []) (l := PA) (ao := pa) (m := PA.length) (c := ca)
          (World.ownsRow_made w4 #[] 0 (Nat.le_refl _) (Nat.zero_le _) (by simp)) (words_own rfl (HA4.alloc (.cells #[] 25))) rfl (own_none HA4) (by simp) (by omega)
        rw [Nat.zero_add, List.nil_append] at hA
        have hba : Below w4.heap.size w4 wA := ((Below.refl _ w4).alloc (Nat.le_refl _) _).grown hgA (by simp) (by intro k hk; simp [Value.ownBlock] at hk; omega)
        have hWB : WordsAt wA wA.heap.size pb PB := ((words_own rfl HBB4).below hba (Nat.le_refl _)).wider hba.size
        obtain ⟨x2, wB, hrB, hB, hgB⟩ := append_words (w := wA) (base := w4.heap.size) (n := PA.length) (v := x1) (xs := PA) (l := PB) (ao := pb) (m := PB.length) (c := cb) hA hWB rfl (own_none HBB4) hba.size (by omega)
        have hbb : Below w4.heap.size w4 wB := below_append hba hA hba.size hgB
        obtain ⟨xo, xc, rfl, -⟩ := own_form hB
        have HR1 := Lib.hid hrA
        have HR2 := Lib.hid hrB
        have HB5 := Lib.hid (HB4.out.trans (hbb.mono hs4))
        have HL5 := Lib.hid (own_later HL4.out hbb)
        have HP5 := Lib.hid ((HP4.out.below hbb (Nat.le_refl _)).wider hbb.size)
        have HSP5 := Lib.hid (HSP.out xo xc (PA.length + PB.length) wB List.length_append (words_own (by rw [List.length_append]) hB))
        clear hpl hb4 hA hgA hrA hrB hB hgB hba hbb hWB HA4 HBB4 HA3 HBB3 HL3 HB3 HCL HB4 HL4 HP4 HSP
        go_wp2_with (at_builtin; first | refine wpList_append_want _ (by kernel_rfl) (.tmp 56) (.tmp 57) 22 22 rfl _ _ rfl rfl _ _ HR1.out ?_ | refine wpList_append_want _ (by kernel_rfl) (.tmp 58) (.tmp 59) 22 22 rfl _ _ rfl rfl _ _ HR2.out ?_)
        refine HSP5.out.mono ?_
        rintro e w6 ⟨so, sc, rfl, -, hws, hb6⟩
        have HB6 := Lib.hid (HB5.out.trans (hb6.mono HB5.out.size))
        have HL6 := Lib.hid (own_later HL5.out hb6)
        have HP6 := Lib.hid ((HP5.out.below hb6 (Nat.le_refl _)).wider hb6.size)
        have HS6 := Lib.hid hws
        clear hws hb6 HB5 HL5 HP5 HSP5 HR1 HR2
        go_wp2_with fail
        refine (HCS.out _ _ _ HS6.out).mono ?_
        rintro e w7 ⟨yo, yc, rfl, hy7, hb7⟩
        have HB7 := Lib.hid (HB6.out.trans (hb7.mono HB6.out.size))
        have HL7 := Lib.hid (own_later HL6.out hb7)
        have HP7 := Lib.hid ((HP6.out.below hb7 (Nat.le_refl _)).wider hb7.size)
        have HS7 := Lib.hid ((HS6.out.below hb7 (Nat.le_refl _)).wider hb7.size)
        have HY7 := Lib.hid (words_own rfl hy7)
        clear hy7 hb7 HB6 HL6 HP6 HS6 HCS
        go_wp2_with fail
        refine (HSET.out _ _ _ (words_own HLL.out.symm HL7.out)).mono ?_
        rintro e w8 ⟨tto, tc, rfl, ht8, hb8⟩
        have HB8 := Lib.hid (HB7.out.trans (hb8.mono HB7.out.size))
        have HP8 := Lib.hid ((HP7.out.below hb8 (Nat.le_refl _)).wider hb8.size)
        have HS8 := Lib.hid ((HS7.out.below hb8 (Nat.le_refl _)).wider hb8.size)
        have HY8 := Lib.hid ((HY7.out.below hb8 (Nat.le_refl _)).wider hb8.size)
        have HT8 := Lib.hid (words_own rfl ht8)
        have HSA := Lib.hid (HSAME.out (setF L) so sc tto tc w8 hsl2 HS8.out HT8.out)
        clear ht8 hb8 HB7 HL7 HP7 HS7 HY7 HSET
        go_wp2_with fail
        refine HSA.out.mono ?_
        rintro e w9 ⟨rfl, hb9⟩
        have HB9 := Lib.hid (HB8.out.trans (hb9.mono HB8.out.size))
        have HP9 := Lib.hid ((HP8.out.below hb9 (Nat.le_refl _)).wider hb9.size)
        have HY9 := Lib.hid ((HY8.out.below hb9 (Nat.le_refl _)).wider hb9.size)
        have HSB := Lib.hid (HSAME.out P yo yc pl cl w9 hPL2 HY9.out HP9.out)
        clear hb9 HB8 HP8 HY8 HS8 HT8 HSA
        go_wp2_with fail
        refine HSB.out.mono ?_
        rintro e w10 ⟨rfl, hb10⟩
        have HB10 := Lib.hid (HB9.out.trans (hb10.mono HB9.out.size))
        clear hb10 HB9 HP9 HY9 HSB
        go_wp2_with fail
        refine (HAW.out _).mono ?_
        rintro e w11 ⟨rfl, hb11⟩
        have hb := HB10.out.trans (hb11.mono HB10.out.size)
        clear hb11 HB10
        go_wp2
        go_ret
        exact ⟨rfl, hb⟩
end Go.Proofs.YtkjfdaleamonaaaGreat.packJoins
