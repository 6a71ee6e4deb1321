/- The walk of the law PackLess. -/
import Derived.Test.YtkjfdaleamonaaaGreatPackAJ
import Derived.Test.YtkjfdaleamonaaaGreatPackAL
import Derived.Deep.RegionLaw
namespace Go.Proofs.YtkjfdaleamonaaaGreat.packLess
open Go.RowKit Go.Lib Go.Sort Wd

def six (K : List Int) (k : Nat) : List Int := K.take k ++ K.drop (k + 1)
theorem six_sub {K : List Int} {k : Nat} {v : Int} (h : v ∈ six K k) : v ∈ K := (List.mem_append.1 h).elim List.mem_of_mem_take List.mem_of_mem_drop
theorem six_len {K : List Int} {k : Nat} (h : K.length = 7) (hk : k < 7) : (six K k).length = 6 := by
  unfold six; rw [List.length_append, List.length_take, List.length_drop]; omega
theorem six_up {K : List Int} (k : Nat) (h : Up K) : Up (six K k) := by
  have e : K.take k ++ K.drop k = K := List.take_append_drop k K
  have h1 : Up (K.take k ++ K.drop k) := by rw [e]; exact h
  obtain ⟨a, b, c⟩ := List.pairwise_append.1 h1
  refine List.pairwise_append.2 ⟨a, h.sublist (List.drop_sublist _ _), fun x hx y hy => c x hx y ?_⟩
  have : K.drop (k + 1) = (K.drop k).drop 1 := by rw [List.drop_drop, Nat.add_comm]
  rw [this] at hy
  exact List.mem_of_mem_drop hy
theorem six_cmp {r : Nat} {A : List Int} (hs : Sized (r + 1) A) (hl : A.length < 7) (h0 : A ≠ []) (hu : Up A) : cmpE A = 0 ∧ cmpL A = A := by
  obtain ⟨g1, g2, -⟩ := sized_cmp hs (by omega)
  refine ⟨g1, ?_⟩
  rw [g2 h0]
  unfold packF
  rw [setF_up_eq hu, pack_none (not_full hs hl hu), setF_up_eq hu]
set_option maxRecDepth 100000 in
set_option maxHeartbeats 8000000 in
theorem walk {w : World} (a0 : Int) (_w0 : (Lit.int .i64 a0).wf = true) (a1 : Int) (_w1 : (Lit.int .i64 a1).wf = true) (a2 : Int) (_w2 : (Lit.int .i64 a2).wf = true) (a3 : Int) (_w3 : (Lit.int .i64 a3).wf = true) :
    Calls Tryz.prog 4 #[.int .i64 a0, .int .i64 a1, .int .i64 a2, .int .i64 a3] w fun e w' => e = .returned (.bool true) ∧ Below w.heap.size w w' := by
  obtain ⟨i0, hi, hz0, hz1, hz2⟩ := info_parts info_u
  have HAW := Lib.hid awake8_any
  obtain ⟨hr2, hr1⟩ := rem12 a2
  obtain ⟨p, hp, hp11⟩ : ∃ R : Nat, a2 % 12 = R ∧ R ≤ 11 := ⟨(a2 % 12).toNat, by omega, by omega⟩
  rw [hp] at hr1
  obtain ⟨s, hs⟩ : ∃ s, a2.tmod 12 = s := ⟨_, rfl⟩
  rw [hs] at hr1 hr2
  obtain ⟨hr3, hr4⟩ := hr2
  have hLA := fun w => lword_w a0 a1 p w
  rw [show (((p : Int)) % 13).toNat = p by omega] at hLA
  have hA := some_ok a0 a1 (r := p) (by omega)
  obtain ⟨e, ee, he⟩ : ∃ e : Nat, bits BinOp.and IntKind.i64 a3 255 = (e : Int) ∧ e ≤ 255 := ⟨(a3 % 256).toNat, by rw [i64_and_mask a3 8 (by omega) 255 rfl]; omega, by omega⟩
  obtain ⟨k, hk1, hk⟩ : ∃ t : Nat, (e : Int).tmod 7 = t ∧ t ≤ 6 := ⟨e % 7, by rw [Int.tmod_eq_emod_of_nonneg (by omega)]; omega, by omega⟩
  generalize someE a0 a1 p = z at *
  obtain ⟨b1, b2, b3⟩ := word_cell hA
  have lW := (wordN_lt hA).1
  obtain ⟨s1, s2⟩ := one_spread hA (R := p + 1) (by omega) (by omega) (by omega)
  rw [show p + 1 - p = 1 by omega] at s2
  have hKd := kids_ds (k := p) (z := z) (by omega)
  have hL : (dsN 1 p z).length = 7 := ds_len _ _ _
  have hS := ds_sized (d := 1) (k := p) (by omega) hA
  have hU := ds_up 1 p z (by omega) hA
  have hP := packF_ds (d := 1) (k := p) (by omega) hA
  obtain ⟨K, hKe⟩ : ∃ K, dsN 1 p z = K := ⟨_, rfl⟩
  rw [hKe] at s2 hL hS hU hP hKd
  have hsl := six_len hL (show k < 7 by omega)
  have hsU := six_up k hU
  have hsS : Sized (p + 1) (six K k) := fun v hv => hS v (six_sub hv)
  have hsne : six K k ≠ [] := fun e => by rw [e] at hsl; cases hsl
  obtain ⟨c1, c2⟩ := six_cmp hsS (by omega) hsne hsU
  have hF1 : freeB (six K k) = true := free_sized hsS hsU.nodup
  have hF2 : freeB (six K k ++ [(wordN p z : Int)]) = false := by
    obtain ⟨v, hv⟩ := List.exists_mem_of_ne_nil _ hsne
    exact free_kid (k := p) (by omega) hA (by simp) (v := v) (by simp [hv]) (by rw [hKd]; exact six_sub hv)
  have hF3 : freeB (six K k ++ [(six K k).getD 0 0]) = false := free_twice fun hn => by
    have h1 := (List.pairwise_append.1 hn).2.2 ((six K k).getD 0 0) (getD_mem (j := 0) (by omega)) ((six K k).getD 0 0) (by simp)
    exact h1 rfl
  have i64 : In64 [(wordN p z : Int)] := in64_cons (by omega) in64_nil
  have i64s := sized_64 hsS
  have hHEAD : (six K k).getD 0 0 ∈ six K k := getD_mem (j := 0) (by omega)
  obtain ⟨hd, hhd, hhd2⟩ : ∃ hd : Nat, (six K k).getD 0 0 = hd ∧ hd < 18446744073709551616 := ⟨((six K k).getD 0 0).toNat, by have := i64s _ hHEAD; omega, by have := i64s _ hHEAD; omega⟩
  rw [hhd] at hF3
  have HSX : Hid (K.take k ++ K.drop (k + 1) = six K k) := rfl
  generalize six K k = X at *
  generalize wordN p z = W at *
  have HSP : Hid (∀ wx : World, Calls Tryz.prog 25 #[.slice (some ⟨wx.heap.size, 0, none⟩) 1 1, .int .i64 ((p : Int) + 1)] (wx.alloc (.cells #[.int .u64 W] 25)) fun e w' => ∃ ao c, e = .returned (.tuple #[.slice ao 7 c, .int .i64 0]) ∧ 7 ≤ c ∧ WordsAt w' w'.heap.size ao K ∧ Below wx.heap.size wx w') := fun wx => by
    refine (spread_row (some ⟨wx.heap.size, 0, none⟩) 1 [(W : Int)] ((p + 1 : Nat) : Int) _ (wx.heap.size + 1) (words_new wx [(W : Int)] 25) (by simp) (by simp) i64).mono ?_
    rintro e w' ⟨ao, c, rfl, -, hc, -, hw, hb⟩
    rw [s2, hL] at hc
    rw [s1, s2, hL]
    rw [s2] at hw
    exact ⟨ao, c, rfl, hc, hw, below_alloc hb⟩
  have HC : Hid (∀ lo lc wx, WordsAt wx wx.heap.size lo X → Calls Tryz.prog 26 #[.slice lo 6 lc] wx (ToldP wx X 0)) := fun lo lc wx h => by
    have := compact_any lo lc X wx wx.heap.size h (Nat.le_refl _) (by omega) i64s
    rwa [hsl, c1, c2] at this
  have HCK : Hid (∀ lo lc wx, WordsAt wx wx.heap.size lo K → Calls Tryz.prog 26 #[.slice lo 7 lc] wx (ToldP wx [(W : Int)] 0)) := fun lo lc wx h => by
    obtain ⟨g1, g2, -⟩ := sized_cmp hS (by omega)
    have hne : K ≠ [] := fun e => by rw [e] at hL; cases hL
    have := compact_any lo lc K wx wx.heap.size h (Nat.le_refl _) (by omega) (sized_64 hS)
    rwa [hL, g1, g2 hne, hP] at this
  have HFR : Hid (∀ lo lc wx, WordsAt wx wx.heap.size lo X → Calls Tryz.prog 27 #[.slice lo 6 lc] wx fun e w' => e = .returned (.bool true) ∧ Below wx.heap.size wx w') := fun lo lc wx h => by
    have := free_any lo lc X wx wx.heap.size h (Nat.le_refl _) (by omega) i64s
    rwa [hsl, hF1] at this
  have HFX : Hid (∀ u : Nat, u < 18446744073709551616 → freeB (X ++ [(u : Int)]) = false → ∀ lo lc wx, WordsAt wx wx.heap.size lo (X ++ [(u : Int)]) → Calls Tryz.prog 27 #[.slice lo 7 lc] wx fun e w' => e = .returned (.bool false) ∧ Below wx.heap.size wx w') := fun u hu hf lo lc wx h => by
    have := free_any lo lc (X ++ [(u : Int)]) wx wx.heap.size h (Nat.le_refl _) (by simp; omega) (fun v hv => (List.mem_append.1 hv).elim (i64s v) (in64_cons hu in64_nil v))
    rwa [show (X ++ [(u : Int)]).length = 7 by simp [hsl], hf] at this
  have HFA := Lib.hid (HFX.out W (by omega) hF2)
  have HFB := Lib.hid (HFX.out hd hhd2 hF3)
  have HSAMX : Hid (∀ ao c bo d wx, WordsAt wx wx.heap.size ao X → WordsAt wx wx.heap.size bo X → Calls Tryz.prog 24 #[.slice ao 6 c, .slice bo 6 d] wx fun e w' => e = .returned (.bool true) ∧ Below wx.heap.size wx w') := fun ao c bo d wx h1 h2 => by
    have := same_any ao bo c d X X wx _ _ h1 h2 (by omega)
    rwa [hsl, decide_eq_true rfl] at this
  have HSAM1 : Hid (∀ (ao : Option Addr) (c : Nat) (wx : World), WordsAt wx wx.heap.size ao [(W : Int)] → Calls Tryz.prog 24 #[.slice ao 1 c, .slice (some ⟨wx.heap.size, 0, none⟩) 1 1] (wx.alloc (.cells #[.int .u64 W] 25)) fun e w' => e = .returned (.bool true) ∧ Below wx.heap.size wx w') := fun ao c wx h => by
    have hb0 : Below wx.heap.size wx (wx.alloc (.cells #[.int .u64 W] 25)) := (Below.refl _ _).alloc (Nat.le_refl _) _
    refine (same_any ao (some ⟨wx.heap.size, 0, none⟩) c 1 [(W : Int)] [(W : Int)] _ _ _ (h.below hb0 (Nat.le_refl _)) (words_new wx [(W : Int)] 25) (by simp)).mono ?_
    rintro e w' ⟨rfl, hb⟩
    exact ⟨by rw [decide_eq_true rfl], below_alloc hb⟩
  have HLA := Lib.hid hLA
  have HXL := Lib.hid hsl
  have HKL := Lib.hid hL
  have HHD := Lib.hid hhd
  clear hLA hF1 hF2 hF3 i64 i64s hHEAD hhd hsl hL hS hU hP hKd hKe hsU hsS hsne c1 c2 s1 s2 b1 b2 b3 hA HFX lW hhd2
  go_enter Tryz.func4, Tryz.ntmps4
  go_wp2_with fail
  refine (HLA.out _).mono ?_
  rintro e w1 ⟨rfl, hb1⟩
  have B1 := Lib.hid hb1
  clear hb1
  go_wp2_with fail
  refine (HSP.out _).mono ?_
  rintro e w2 ⟨so, sc, rfl, hsc, hw2, hb2⟩
  have B2 := Lib.hid (B1.out.trans (hb2.mono B1.out.size))
  obtain ⟨b, off, rfl, hb, -⟩ := hw2 (by rw [HKL.out]; omega)
  have W2 := Lib.hid hw2
  clear hw2 hb2 B1
  have hdr : Below w2.heap.size w2 (w2.alloc (.cells #[] 25)).drew := ((Below.refl w2.heap.size w2).alloc (Nat.le_refl _) _).drew
  obtain ⟨x1, wA, hrA, hA, hgA⟩ := append_words (w := (w2.alloc (.cells #[] 25)).drew) (base := w2.heap.size) (n := 0) (v := .slice (some ⟨w2.heap.size, 0, none⟩) 0 0) (xs := []) (l := K.take k) (ao := some ⟨b, off, none⟩) (m := k) (c := sc)
    (World.ownsRow_made w2 #[] 0 (Nat.le_refl _) (Nat.zero_le _) (by simp)) (((words_front W2.out k).below hdr (Nat.le_refl _)).wider hdr.size) (by rw [List.length_take, HKL.out]; omega) (fun e => by cases e) hdr.size (by omega)
  rw [Nat.zero_add, List.nil_append] at hA
  have BA : Below w2.heap.size w2 wA := hdr.grown hgA hdr.size (by intro j hj; simp [Value.ownBlock] at hj; omega)
  obtain ⟨j, hj⟩ : ∃ j : Nat, k + 1 = j := ⟨_, rfl⟩
  rw [hj] at HSX
  obtain ⟨ad, had⟩ : ∃ ad, (if sc = j then some (⟨b, off, none⟩ : Addr) else some ⟨b, off + j, none⟩) = ad := ⟨_, rfl⟩
  have hwad : WordsAt w2 w2.heap.size ad (K.drop j) := by
    rw [← had]
    by_cases h : sc = j
    · rw [if_pos h]
      intro h0
      rw [List.length_drop, HKL.out] at h0
      omega
    · rw [if_neg h]; exact words_tail W2.out j
  obtain ⟨x2, wB, hrB, hB, hgB⟩ := append_words (w := wA) (base := w2.heap.size) (n := k) (v := x1) (xs := K.take k) (l := K.drop j) (ao := ad) (m := 7 - j) (c := sc - j)
    hA ((hwad.below BA (Nat.le_refl _)).wider BA.size) (by rw [List.length_drop, HKL.out]) (fun e => by rw [← had] at e; split at e <;> cases e) BA.size (by omega)
  have BB : Below w2.heap.size w2 wB := below_append BA hA BA.size hgB
  rw [HSX.out, show k + (7 - j) = 6 by omega] at hB
  obtain ⟨xo, xc, rfl, -, hxg⟩ := own_form hB
  obtain ⟨g, rfl, hg1, -⟩ := hxg (by omega)
  have HR1 := Lib.hid hrA
  have HR2 := Lib.hid hrB
  have HXO := Lib.hid hB
  have BX := Lib.hid (B2.out.trans (BB.mono B2.out.size))
  have WX := Lib.hid ((W2.out.below BB (Nat.le_refl _)).wider BB.size)
  have HAD := Lib.hid had
  have h2s : w.heap.size ≤ w2.heap.size := B2.out.size
  clear hdr hrA hA hgA BA hwad hrB hB hgB BB B2 W2 had
  have k1 : k ≤ sc := by omega
  have k2 : (j : Int) ≤ 7 := by omega
  have k3 : IntKind.i64.wrap ((k : Int) + 1) = (j : Int) := by rw [show (k : Int) + 1 = (j : Int) by omega]; exact IntWalk.i64_in _ (by omega)
  have k4 : j ≤ 7 := by omega
  have HJ := Lib.hid hj
  clear hj
  go_upto_region 7 with (fail)
  go_region_law (first
    | (refine step_append_run rfl (.tmp 44) (.tmp 47) 22 22 rfl _ _ rfl rfl _ _ HR1.out ?_)
    | (rw [HAD.out]; refine step_append_run rfl (.tmp 48) (.tmp 52) 22 22 rfl _ _ rfl rfl _ _ HR2.out ?_))
  clear HR1 HR2 HAD k1 k2 k3 k4
  have HCX := Lib.hid (HC.out (some ⟨g, 0, none⟩) xc wB (words_own HXL.out.symm HXO.out))
  go_wp2_with fail
  refine HCX.out.mono ?_
  rintro e w3 ⟨po, pc, rfl, hp3, hb3⟩
  rw [HXL.out]
  rw [HXL.out] at hp3
  have B3 := Lib.hid (BX.out.trans (hb3.mono BX.out.size))
  have O3 := Lib.hid (own_later HXO.out hb3)
  have S3 := Lib.hid ((WX.out.below hb3 (Nat.le_refl _)).wider hb3.size)
  have P3 := Lib.hid (words_own HXL.out.symm hp3)
  have HCS := Lib.hid (HCK.out _ sc w3 S3.out)
  have hs3 : w2.heap.size ≤ w3.heap.size := Nat.le_trans hg1 (Nat.le_of_lt (O3.out.lt g rfl).2)
  clear hp3 hb3 HCX BX WX HXO
  go_wp2_with fail
  refine HCS.out.mono ?_
  rintro e w4 ⟨qo, qc, rfl, hq4, hb4⟩
  have B4 := Lib.hid (B3.out.trans (hb4.mono B3.out.size))
  have O4 := Lib.hid (own_later O3.out hb4)
  have P4 := Lib.hid ((P3.out.below hb4 (Nat.le_refl _)).wider hb4.size)
  have Q4 := Lib.hid (words_own (l := [(W : Int)]) rfl hq4)
  have HSX2 := Lib.hid (HSAMX.out po pc (some ⟨g, 0, none⟩) xc w4 P4.out (words_own HXL.out.symm O4.out))
  have hs4 := Nat.le_trans hs3 hb4.size
  clear hq4 hb4 HCS B3 O3 P3 S3 hs3
  go_wp2_with fail
  refine HSX2.out.mono ?_
  rintro e w5 ⟨rfl, hb5⟩
  have B5 := Lib.hid (B4.out.trans (hb5.mono B4.out.size))
  have O5 := Lib.hid (own_later O4.out hb5)
  have Q5 := Lib.hid ((Q4.out.below hb5 (Nat.le_refl _)).wider hb5.size)
  have HS2 := Lib.hid (HSAM1.out qo qc w5 Q5.out)
  have hs5 := Nat.le_trans hs4 hb5.size
  clear hb5 B4 O4 Q4 P4 HSX2 hs4
  go_wp2_with fail
  refine HS2.out.mono ?_
  rintro e w6 ⟨rfl, hb6⟩
  have B6 := Lib.hid (B5.out.trans (hb6.mono B5.out.size))
  have O6 := Lib.hid (own_later O5.out hb6)
  have HF6 := Lib.hid (HFR.out (some ⟨g, 0, none⟩) xc w6 (words_own HXL.out.symm O6.out))
  have hs6 := Nat.le_trans hs5 hb6.size
  clear hb6 B5 O5 Q5 HS2 hs5
  go_wp2_with fail
  refine HF6.out.mono ?_
  rintro e w7 ⟨rfl, hb7⟩
  have B7 := Lib.hid (B6.out.trans (hb7.mono B6.out.size))
  have O7 := Lib.hid (own_later O6.out hb7)
  have hs7 := Nat.le_trans hs6 hb7.size
  have HA7 : Below w2.heap.size w7 (w7.alloc (.cells #[.int .u64 W] 25)) := (Below.refl _ _).alloc hs7 _
  obtain ⟨g8, c8, w8, hr8, hn8, ho8, hb8⟩ := append_keep (c := 1) (O7.out.alloc (.cells #[.int .u64 W] 25)) ((words_new w7 [(W : Int)] 25).wider (B := w7.heap.size + 1) (C := (w7.alloc (.cells #[.int .u64 W] 25)).heap.size) (by simp)) (m := 1) rfl (Nat.le_trans hs7 HA7.size) (by omega)
  have HR8 := Lib.hid hr8
  have B8 := Lib.hid (B7.out.trans ((HA7.trans hb8).mono h2s))
  have O8 := Lib.hid ho8
  have HF8 := Lib.hid (HFA.out (some ⟨g8, 0, none⟩) c8 w8 (words_own (by simp [HXL.out]) hn8))
  have hs8 := Nat.le_trans hs7 (HA7.trans hb8).size
  clear hb7 B6 O6 HF6 hs6 hr8 hn8 ho8 hb8 HA7 O7 B7
  go_wp2_with (at_builtin; refine wpList_append_want _ (by kernel_rfl) (.tmp 86) (.tmp 88) 22 22 rfl _ _ rfl rfl _ _ HR8.out ?_)
  refine HF8.out.mono ?_
  rintro e w9 ⟨rfl, hb9⟩
  have B9 := Lib.hid (B8.out.trans (hb9.mono B8.out.size))
  have O9 := Lib.hid (own_later O8.out hb9)
  have hs9 := Nat.le_trans hs8 hb9.size
  have HA9 : Below w2.heap.size w9 (w9.alloc (.cells #[.int .u64 hd] 25)) := (Below.refl _ _).alloc hs9 _
  obtain ⟨gx, cx, wx, hrx, hnx, -, hbx⟩ := append_keep (c := 1) (O9.out.alloc (.cells #[.int .u64 hd] 25)) ((words_new w9 [(hd : Int)] 25).wider (B := w9.heap.size + 1) (C := (w9.alloc (.cells #[.int .u64 hd] 25)).heap.size) (by simp)) (m := 1) rfl (Nat.le_trans hs9 HA9.size) (by omega)
  have HRX := Lib.hid hrx
  have BX := Lib.hid (B9.out.trans ((HA9.trans hbx).mono h2s))
  have HFY := Lib.hid (HFB.out (some ⟨gx, 0, none⟩) cx wx (words_own (by simp [HXL.out]) hnx))
  have c0 : w9.cell? ⟨g, 0, none⟩ = some (.int .u64 hd) := by
    have := O9.out.cellAt 0 (by omega)
    rw [this, uV_get X 0 (by rw [HXL.out]; omega), HHD.out]
  have hg9 : g < w9.heap.size := (O9.out.lt g rfl).2
  clear hb9 B8 O8 HF8 hs8 hrx hnx hbx HA9 HR8 B9 O9
  go_wp2_with (at_builtin; refine wpList_append_want _ (by kernel_rfl) (.tmp 94) (.tmp 98) 22 22 rfl _ _ rfl rfl _ _ HRX.out ?_)
  refine HFY.out.mono ?_
  rintro e w11 ⟨rfl, hb11⟩
  have B11 := Lib.hid (BX.out.trans (hb11.mono BX.out.size))
  clear hb11 BX HRX HFY c0 hg9
  go_wp2_with fail
  refine (HAW.out _).mono ?_
  rintro e w12 ⟨rfl, hb12⟩
  have hb := B11.out.trans (hb12.mono B11.out.size)
  clear hb12 B11
  go_wp2
  go_ret
  exact ⟨rfl, hb⟩
end Go.Proofs.YtkjfdaleamonaaaGreat.packLess
