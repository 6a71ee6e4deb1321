/- The walk of the law FillApart. -/
import Derived.Test.YtpkoapmpknbgoaaGreatPackAL
import Derived.Lib.MinMax
namespace Go.Proofs.YtpkoapmpknbgoaaGreat.fillApart
open Go.RowKit Go.Lib Wd Cv

theorem moved_snoc (d : Int) (a : List (Int × Int)) {k : Nat} (hk : k < a.length) : (Po.moved d 0 a).take (k + 1) = (Po.moved d 0 a).take k ++ [(Po.px a k + d, Po.py a k)] := by
  have hl : k < (Po.moved d 0 a).length := by rw [Po.moved_length]; exact hk
  rw [List.take_succ_eq_append_getElem hl]
  congr 2
  have e : (Po.moved d 0 a)[k]? = some ((a[k]).1 + d, (a[k]).2 + 0) := by unfold Po.moved; rw [List.getElem?_map, List.getElem?_eq_getElem hk]; rfl
  rw [List.getElem?_eq_getElem hl] at e
  rw [Option.some.inj e]
  unfold Po.px Po.py
  rw [List.getD_eq_getElem?_getD, List.getElem?_eq_getElem hk]
  simp
set_option maxRecDepth 100000 in
set_option maxHeartbeats 16000000 in
theorem walk {w : World} (a0 : Int) (_w0 : (Lit.int .i64 a0).wf = true) (a1 : Int) (_w1 : (Lit.int .i64 a1).wf = true) (a2 : Option Addr) (n2 c2 : Nat) (z2 : Nat → Int) (h2 : IntsAtK .i64 w w.heap.size a2 n2 z2) (_b2 : ∀ i, i < n2 → (Lit.int .i64 (z2 i)).wf = true) (s2 : n2 * 8 ≤ 140737488351232) (a3 : Int) (_w3 : (Lit.int .i64 a3).wf = true) :
    Calls Tryz.prog 5 #[.int .i64 a0, .int .i64 a1, .slice a2 n2 c2, .int .i64 a3] w fun e w' => e = .returned (.bool true) ∧ Below w.heap.size w w' := by
  obtain ⟨i1, hj, hy0, hy1, hy2⟩ := info_parts info_pt
  have e0 : bits BinOp.and IntKind.i64 a0 268435455 = a0 % 268435456 := i64_and_mask a0 28 (by omega) 268435455 rfl
  have e1 : bits BinOp.and IntKind.i64 a1 268435455 = a1 % 268435456 := i64_and_mask a1 28 (by omega) 268435455 rfl
  have e3 : bits BinOp.and IntKind.i64 a3 255 = a3 % 256 := i64_and_mask a3 8 (by omega) 255 rfl
  have hX : 0 ≤ a0 % 268435456 ∧ a0 % 268435456 < 268435456 := by omega
  have hY : 0 ≤ a1 % 268435456 ∧ a1 % 268435456 < 268435456 := by omega
  obtain ⟨R, hRe, hR8, hR⟩ : ∃ R : Nat, (a3 % 256).tmod 5 + 8 = (R : Int) ∧ 8 ≤ R ∧ R ≤ 12 := by
    rw [Int.tmod_eq_emod_of_nonneg (by omega)]
    exact ⟨(a3 % 256 % 5 + 8).toNat, by omega, by omega, by omega⟩
  have q3 : IntKind.i64.wrap ((a3 % 256).tmod 5 + 8) = (R : Int) := by rw [hRe]; exact wrap_in (by omega) (by omega)
  generalize a3 % 256 = r8 at *
  have hrg := rings_any (a0 % 268435456) (a1 % 268435456) a2 n2 c2 z2 R hR w h2 (by omega)
  rw [Int.emod_eq_of_lt (show 0 ≤ a0 % 268435456 by omega) (by omega), Int.emod_eq_of_lt (show 0 ≤ a1 % 268435456 by omega) (by omega)] at hrg
  have HRG := Lib.hid hrg
  have HAW := Lib.hid awake11_any
  have HSZ := Lib.hid (size4 (m := 12 - R) (by omega))
  generalize a0 % 268435456 = X at *
  generalize a1 % 268435456 = Y at *
  clear hrg h2 _b2 hRe
  go_enter Tryz.func5, Tryz.ntmps5
  go_wp2_with fail
  refine HRG.out.mono ?_
  rintro e w1 ⟨v, ls, rfl, hls, ⟨vs, hown, hor⟩, hb1⟩
  obtain ⟨ro, rc, rfl, hrc, hrh⟩ := own_form hown
  have HB1 := Lib.hid hb1
  have HOR := Lib.hid hor
  have HRH := Lib.hid hrh
  have HLS := Lib.hid hls
  obtain ⟨nl, hnl⟩ : ∃ nl, ls.length = nl := ⟨_, rfl⟩
  rw [hnl] at HRH
  have HNL := Lib.hid hnl
  rw [hnl]
  clear hown hor hb1 hrc hrh hls hnl HRG
  by_cases hgo : nl = 0 ∨ 40 < n2
  · obtain ⟨q, hq⟩ : ∃ q, ((nl : Int) == 0) = q := ⟨_, rfl⟩
    have hq2 : q = false → decide ((40 : Int) < (n2 : Int)) = true := fun e => by
      subst e
      rw [beq_eq_false_iff_ne] at hq
      exact decide_eq_true (by omega)
    clear hgo
    cases q
    · have q2 := hq2 rfl
      clear hq2
      go_wp2_with fail
      refine (HAW.out _).mono ?_
      rintro e w2 ⟨rfl, hb2⟩
      have HB2 := Lib.hid (HB1.out.trans (hb2.mono HB1.out.size))
      clear hb2
      go_wp2
      go_ret
      exact ⟨rfl, HB2.out⟩
    · clear hq2
      go_wp2_with fail
      refine (HAW.out _).mono ?_
      rintro e w2 ⟨rfl, hb2⟩
      have HB2 := Lib.hid (HB1.out.trans (hb2.mono HB1.out.size))
      clear hb2
      go_wp2
      go_ret
      exact ⟨rfl, HB2.out⟩
  · have g1 : ((nl : Int) == 0) = false := by rw [beq_eq_false_iff_ne]; omega
    have g2 : decide ((40 : Int) < (n2 : Int)) = false := decide_eq_false (by omega)
    have hnl0 : 0 < nl := by omega
    have hnli : (0 : Int) < (nl : Int) := by omega
    clear hgo
    go_upto_region 8 with (fail)
    obtain ⟨sz, hsz⟩ : ∃ q, sizeN (12 - R) = q := ⟨_, rfl⟩
    have HSS := Lib.hid hsz
    clear hsz
    go_loopw [10, 11] (fun sv iv wr => ∃ (i : Nat) (s : Int), R ≤ i ∧ i ≤ 12 ∧ sv = .int .i64 s ∧ iv = .int .i64 i ∧ wr = w1 ∧ Hid (s = sizeN (i - R))) (fun _ iv _ => 12 - (intOf iv).toNat)
    case atStart => exact ⟨R, 52, Nat.le_refl _, hR, rfl, rfl, rfl, by show _ = _; rw [Nat.sub_self]; rfl⟩
    case round =>
     obtain ⟨i, s, hRi, hi12, rfl, rfl, rfl, HS⟩ := hrel
     obtain ⟨s1, s2⟩ := sizeN_pos (m := i - R) (by omega)
     rw [← HS.out] at s1 s2
     by_cases hlt : i < 12
     · have hN : Hid (s * 8 / 3 = sizeN (i + 1 - R)) := by
         show _ = _
         rw [show i + 1 - R = (i - R) + 1 by omega, HS.out]; rfl
       have hi0 : (i : Int) < 12 := by omega
       clear HS
       go_wp2
       refine ⟨⟨i + 1, s * 8 / 3, by omega, by omega, rfl, by rw [show ((i + 1 : Nat) : Int) = (i : Int) + 1 by omega], trivial, hN.out⟩, by simp [intOf]; omega⟩
     have hie : i = 12 := by omega
     have hic : (i : Int) = 12 := by omega
     rw [hic]
     have hss : s = sz := by rw [HS.out, hie]; exact HSS.out
     have hs3 : s ≤ 3000 := by rw [hss, ← HSS.out]; exact HSZ.out.2
     clear HS hRi hlt hi12 hie hic
     subst hss
     obtain ⟨w1, hw1e⟩ : ∃ W, W = wr := ⟨_, rfl⟩
     rw [← hw1e] at HB1 HOR HRH ⊢
     clear hw1e
     obtain ⟨v0, hv0, ho0⟩ := HOR.out.get 0 (by rw [HNL.out]; exact hnl0)
     obtain ⟨ga, ca, rfl, hra⟩ := Po.ring_of_own ho0
     obtain ⟨gr, rfl, -, hgr, hrc⟩ := HRH.out hnl0
     have hr0 := hrc 0 _ hv0
     obtain ⟨a, hae⟩ : ∃ a, Po.rg ls 0 = a := ⟨_, rfl⟩
     rw [hae] at hr0 hra
     have ham : a ∈ ls := by
       rw [← hae]
       unfold Po.rg
       have : 0 < ls.length := by rw [HNL.out]; exact hnl0
       simp [List.getD_eq_getElem?_getD, this]
     obtain ⟨h3, hrr⟩ := HLS.out.2 a ham
     rw [← HSS.out] at hs3 s1
     rw [HSS.out] at hs3 s1 hrr
     have HOK := Lib.hid (near_ok1 hX hY ⟨s1, hs3⟩ h3 hrr)
     obtain ⟨na, hna⟩ : ∃ na, a.length = na := ⟨_, rfl⟩
     have hna6 : na ≤ 6 := by have := hrr.1; omega
     have hna3 : 3 ≤ na := by omega
     rw [hna] at hr0
     have HNA := Lib.hid hna
     have HRA := Lib.hid hra
     clear hv0 ho0 hrc hae ham h3 hrr hna hra HOR HRH HLS HNL
     have hgr1 : gr < w1.heap.size := hgr
     clear hgr
     obtain ⟨hab, hpa, hpb, hba, hbb⟩ := HOK.out
     have hR12 : R ≤ 12 := hR
     have hwa : (X + 7 * s) - X ≤ 28 * sizeN (12 - R) := by rw [HSS.out]; omega
     have hwy : (Y + 7 * s) - Y ≤ 28 * sizeN (12 - R) := by rw [HSS.out]; omega
     have hwb : (X + 27 * s) - (X + 20 * s) ≤ 28 * sizeN (12 - R) := by rw [HSS.out]; omega
     have hwab : (X + 27 * s) - X ≤ 28 * sizeN (12 - R) := by rw [HSS.out]; omega
     have HF1 := Lib.hid (fun W hW => fill_one hR12 hab.fst hba hwa hwy (ci := ca) HNA.out (by omega) HRA.out W hW)
     have HLB : Hid ((Po.moved (20 * s) 0 a).length = na) := by show _ = _; rw [Po.moved_length]; exact HNA.out
     have HF2 : Hid (∀ (W0 : World) (rj : Option Addr) (cj : Nat), Po.RingAt W0 W0.heap.size rj (Po.moved (20 * s) 0 a) → ∀ W, Below W0.heap.size W0 W → Calls Tryz.prog 8 #[.slice (some ⟨W.heap.size, 0, none⟩) 1 1, .int .i64 R] (W.alloc (.cells #[.slice rj na cj] 27)) fun e w' => ∃ L lo lc ln, IsFil R [Po.moved (20 * s) 0 a] L ∧ e = .returned (.tuple #[.slice lo ln lc, .int .i64 0]) ∧ LAt w' lo ln lc L ∧ Below W.heap.size W w') := fun W0 rj cj h W hW => fill_one hR12 hab.snd hbb hwb hwy HLB.out (by omega) h W hW
     have HF3 : Hid (∀ (W0 : World) (rj : Option Addr) (cj : Nat), Po.RingAt W0 W0.heap.size ga a → Po.RingAt W0 W0.heap.size rj (Po.moved (20 * s) 0 a) → ∀ W, Below W0.heap.size W0 W → Calls Tryz.prog 8 #[.slice (some ⟨W.heap.size, 0, none⟩) 2 2, .int .i64 R] (W.alloc (.cells #[.slice ga na ca, .slice rj na cj] 27)) fun e w' => ∃ L lo lc ln, IsFil R [a, Po.moved (20 * s) 0 a] L ∧ e = .returned (.tuple #[.slice lo ln lc, .int .i64 0]) ∧ LAt w' lo ln lc L ∧ Below W.heap.size W w') := fun W0 rj cj h1 h2 W hW => fill_both hR12 hab (x0 := X) (x1 := X + 27 * s) (fun p hp => by have := hba p hp; omega) (fun p hp => by have := hbb p hp; omega) hwab hwy HNA.out HLB.out (by omega) (by omega) h1 h2 W hW
     have HAP : Hid (∀ {P Q C : List Int}, IsFil R [a] P → IsFil R [Po.moved (20 * s) 0 a] Q → IsFil R [a, Po.moved (20 * s) 0 a] C → setF (P ++ Q) = C ∧ C.length = P.length + Q.length) := fun hP hQ hC => fil_apart hab hpa hpb hP hQ hC
     have HPA : Hid (∀ k, k < na → 0 ≤ Po.px a k ∧ Po.px a k < 500000000) := fun k hk => by
       have hkl : k < a.length := by rw [HNA.out]; exact hk
       have := hba a[k] (List.getElem_mem hkl)
       have e : Po.px a k = (a[k]).1 := by unfold Po.px; simp [List.getD_eq_getElem?_getD, hkl]
       rw [e]; omega
     clear hab hpa hpb hba hbb HOK hwa hwy hwb hwab
     go_upto_region 14 with (fail)
     go_loopw [13, 14] (fun bv iv wr => ∃ j : Nat, j ≤ na ∧ iv = .int .i64 j ∧ wr.ownsRow w1.heap.size 26 2 bv j (Po.ringV ((Po.moved (20 * s) 0 a).take j)) ∧ Below w1.heap.size w1 wr) (fun _ iv _ => na - (intOf iv).toNat)
     case atStart => exact ⟨0, Nat.zero_le _, rfl, World.ownsRow_nil _ _ _ _, Below.refl _ _⟩
     case round =>
       obtain ⟨j, hjn, rfl, hown, hbel⟩ := hrel
       by_cases hlt : j < na
       · obtain ⟨b, off, rfl, hbB, hc⟩ := HRA.out.below hbel (Nat.le_refl _) (by rw [HNA.out]; omega)
         have c0 := (hc j (by rw [HNA.out]; exact hlt)).1
         have c1 := (hc j (by rw [HNA.out]; exact hlt)).2
         have hsn := moved_snoc (20 * s) a (k := j) (by rw [HNA.out]; exact hlt)
         have hpr := HPA.out j hlt
         generalize Po.px a j = P at *
         generalize Po.py a j = Q at *
         have HSN := Lib.hid hsn
         clear hc hsn
         have hsz := hbel.size
         have hbw : b < wr.heap.size := by omega
         have hlti : (j : Int) < (na : Int) := by omega
         obtain ⟨bo, bc, rfl, _, _⟩ := own_form hown
         go_wp2_with (first | (with_reducible refine wp_region_lex (by kernel_rfl) (by kernel_rfl) ?_) | (with_reducible refine OnlyG.intro (by kernel_rfl) ?_) | (at_builtin; refine wpList_append_own _ rfl (.tmp 72) (.tmp 87) 27 rfl w1.heap.size 26 i1 (.agg #[.int .i64 0, .int .i64 0]) 2 16 Tryz.underlying27 hj hy0 hy1 hy2 rfl (by decide) _ _ _ rfl ((hown.alloc _).drew) ⟨wr.heap.size, 0, none⟩ 1 1 [.int .i64 (P + 20 * s), .int .i64 Q] rfl rfl (cells_new_drew _ _ _ _ rfl) (by simp [Value.oneCell']) (by unfold maxLen; omega) (by omega) (by simp; omega) ?_; intro v' w1' hown1 hgrow _))
         go_roundw
         case rel => exact ⟨j + 1, by omega, by go_num, by rw [HSN.out, Po.ringV_snoc]; exact hown1, below_append ((hbel.alloc hsz _).drew) ((hown.alloc _).drew) (by simp; omega) hgrow⟩
         case measure => simp [intOf]; omega
       · have hje : na = j := by omega
         subst hje
         have hlti : ¬ (na : Int) < (na : Int) := by omega
         have htk : (Po.moved (20 * s) 0 a).take na = Po.moved (20 * s) 0 a := List.take_of_length_le (by rw [HLB.out]; exact Nat.le_refl _)
         rw [htk] at hown
         obtain ⟨bo, bc, rfl, _, _⟩ := own_form hown
         have HRB := Lib.hid (Po.ring_at_own HLB.out.symm hown)
         have HRA2 := Lib.hid (Po.ring_wider (HRA.out.below hbel (Nat.le_refl _)) hbel.size)
         have HG2 := Lib.hid (HF2.out wr bo bc HRB.out)
         have HG3 := Lib.hid (HF3.out wr bo bc HRA2.out HRB.out)
         have HX0 : Hid (Below w1.heap.size w1 wr) := hbel
         clear hy2 e0 e1 e3 q3 hown htk HF2 HF3 hbel HRA HRB HRA2 HPA
         go_wp2_with fail
         refine (HF1.out wr HX0.out).mono ?_
         rintro e w2 ⟨P, oP, cP, nP, hP, rfl, kP, hb2⟩
         have HY2 : Hid (Below wr.heap.size wr w2) := hb2
         have HLP := Lib.hid (And.intro hP kP)
         clear hP kP hb2 HF1
         go_wp2_with fail
         refine (HG2.out w2 HY2.out).mono ?_
         rintro e w3 ⟨Q, oQ, cQ, nQ, hQ, rfl, kQ, hb3⟩
         have HY3 := Lib.hid (HY2.out.trans (hb3.mono HY2.out.size))
         have HLQ := Lib.hid (And.intro hQ kQ)
         have HKP := Lib.hid (HLP.out.2.later hb3)
         clear hQ kQ hb3 HG2
         go_wp2_with fail
         refine (HG3.out w3 HY3.out).mono ?_
         rintro e w4 ⟨C, oC, cC, nC, hC, rfl, kC, hb4⟩
         have HY4 := Lib.hid (HB1.out.trans ((HX0.out.trans ((HY3.out.trans (hb4.mono HY3.out.size)).mono HX0.out.size)).mono HB1.out.size))
         have HKP4 := Lib.hid (HKP.out.later hb4)
         have HKQ4 := Lib.hid (HLQ.out.2.later hb4)
         obtain ⟨hset, hlen⟩ := HAP.out HLP.out.1 HLQ.out.1 hC
         have hnP : nP ≤ 20000 := by have := HKP4.out.1; have := HLP.out.1.2.2; omega
         have hnQ : nQ ≤ 20000 := by have := HKQ4.out.1; have := HLQ.out.1.2.2; omega
         have hnC : nC = nP + nQ := by have := HKP4.out.1; have := HKQ4.out.1; have := kC.1; omega
         have hnC3 : nC ≤ 40000 := by omega
         have HNC := Lib.hid hnC
         clear hnC
         obtain ⟨y1, wA, xo, xc, wB, r1, r2, hown, hbB⟩ := two_append (w := w4) HKP4.out.1 HKQ4.out.1 HKP4.out.2.1 HKQ4.out.2.1 HKP4.out.2.2 HKQ4.out.2.2 (by omega)
         have hsl : nP + nQ = (P ++ Q).length := by rw [List.length_append, ← HKP4.out.1, ← HKQ4.out.1]
         have hst := rset_n (ao := xo) (c := xc) hsl (by omega) (words_own hsl hown)
         rw [hset] at hst
         have HST := Lib.hid hst
         have HR1 := Lib.hid r1
         have HR2 := Lib.hid r2
         have HB5 := Lib.hid (HY4.out.trans (hbB.mono HY4.out.size))
         have HKC5 := Lib.hid (kC.later hbB)
         clear hC kC hb4 HG3 hset hlen hst r1 r2 hown hbB hsl HKP HKP4 HKQ4 HLP HLQ HAP HY4 HY3 HY2 HX0
         as_aux_lemma =>
           go_upto_region 20 with (fail)
           go_wp2_with (at_builtin; first | refine wpList_append_want _ (by kernel_rfl) (.tmp 123) (.tmp 124) 22 22 rfl (.slice (some ⟨w4.heap.size, 0, none⟩) 0 0) (.slice oP nP cP) (by kernel_rfl) (by kernel_rfl) _ _ HR1.out ?_ | refine wpList_append_want _ (by kernel_rfl) (.tmp 125) (.tmp 126) 22 22 rfl y1 (.slice oQ nQ cQ) (by kernel_rfl) (by kernel_rfl) _ _ HR2.out ?_)
           refine HST.out.mono ?_
           rintro e w6 ⟨so, sc, rfl, hws, hb6⟩
           have hkc := HKC5.out.later hb6
           have hsm := same_n (w := w6) (ao := oC) (c := cC) (bo := so) (d := sc) (a := C) (b := C) hkc.1 rfl (by omega) hkc.2.1 hws
           rw [decide_eq_true rfl] at hsm
           have HSM := Lib.hid hsm
           have HB6 := Lib.hid (HB5.out.trans (hb6.mono HB5.out.size))
           clear hws hb6 hkc hsm HST HR1 HR2 HKC5 HB5
           go_wp2_with fail
           refine HSM.out.mono ?_
           rintro e w7 ⟨rfl, hb7⟩
           have HB7 := Lib.hid (HB6.out.trans (hb7.mono HB6.out.size))
           clear hb7 HSM HB6
           have hq : ((nC : Int) == (nP : Int) + (nQ : Int)) = true := by rw [beq_iff_eq]; have := HNC.out; omega
           have hw : IntKind.i64.wrap ((nP : Int) + (nQ : Int)) = (nP : Int) + (nQ : Int) := wrap_in (by omega) (by omega)
           go_upto_region 22 with (fail)
           clear hq hw g1 g2 hnl0 hnli hr0 hgr1 hna3 hna6 hlti hnP hnQ hnC3 HNC HLB HNA
           as_aux_lemma =>
             go_upto_region 23 with (fail)
             obtain ⟨U, hU, hU1, hU2⟩ : ∃ U, X + 20 * s = U ∧ 0 ≤ U ∧ U < 300000000 := ⟨_, rfl, by omega, by omega⟩
             obtain ⟨V, hV, hV1, hV2⟩ : ∃ V, Y + 20 * s = V ∧ 0 ≤ V ∧ V < 300000000 := ⟨_, rfl, by omega, by omega⟩
             rw [hU, hV]
             clear hU hV
             obtain ⟨U8, hU8, x8⟩ : ∃ q, U + 8 * s = q ∧ 0 ≤ q ∧ q < 400000000 := ⟨_, rfl, by omega, by omega⟩
             obtain ⟨V8, hV8, y8⟩ : ∃ q, V + 8 * s = q ∧ 0 ≤ q ∧ q < 400000000 := ⟨_, rfl, by omega, by omega⟩
             obtain ⟨U2, hU2', x2⟩ : ∃ q, U + 2 * s = q ∧ 0 ≤ q ∧ q < 400000000 := ⟨_, rfl, by omega, by omega⟩
             obtain ⟨V2, hV2', y2⟩ : ∃ q, V + 2 * s = q ∧ 0 ≤ q ∧ q < 400000000 := ⟨_, rfl, by omega, by omega⟩
             obtain ⟨U5, hU5, x5⟩ : ∃ q, U + 5 * s = q ∧ 0 ≤ q ∧ q < 400000000 := ⟨_, rfl, by omega, by omega⟩
             obtain ⟨V5, hV5, y5⟩ : ∃ q, V + 5 * s = q ∧ 0 ≤ q ∧ q < 400000000 := ⟨_, rfl, by omega, by omega⟩
             as_aux_lemma =>
               go_upto_region 24 with ((refine wpList_buildSlice rfl 27 26 4 _ rfl #[.int .i64 U, .int .i64 V, .int .i64 U8, .int .i64 V, .int .i64 U8, .int .i64 V8, .int .i64 U, .int .i64 V8] i1 (.agg #[.int .i64 0, .int .i64 0]) (by kernel_rfl) hj hy0 (by rw [hy1]; decide) (by rw [hy1]; decide) (by rw [hy1]; exact fill4 _ _ _ _ _ _ _ _ _ (by rw [Array.toList_map]; rfl)) ?_))
               as_aux_lemma =>
                 go_upto_region 25 with ((refine wpList_buildSlice rfl 27 26 4 _ rfl #[.int .i64 U2, .int .i64 V2, .int .i64 U5, .int .i64 V2, .int .i64 U5, .int .i64 V5, .int .i64 U2, .int .i64 V5] i1 (.agg #[.int .i64 0, .int .i64 0]) (by kernel_rfl) hj hy0 (by rw [hy1]; decide) (by rw [hy1]; decide) (by rw [hy1]; exact fill4 _ _ _ _ _ _ _ _ _ (by rw [Array.toList_map]; rfl)) ?_))
                 as_aux_lemma =>
                   have hro : Po.RingAt (w7.alloc (.cells #[.int .i64 U, .int .i64 V, .int .i64 U8, .int .i64 V, .int .i64 U8, .int .i64 V8, .int .i64 U, .int .i64 V8] 26)) (w7.alloc (.cells #[.int .i64 U, .int .i64 V, .int .i64 U8, .int .i64 V, .int .i64 U8, .int .i64 V8, .int .i64 U, .int .i64 V8] 26)).heap.size (some ⟨w7.heap.size, 0, none⟩) (Po.qd U V U8 V8) := Po.ring_wider (Po.ringAt_new w7 (Po.qd U V U8 V8) 26) (by rw [World.size_alloc]; exact Nat.le_refl _)
                   have hba : Below (w7.alloc (.cells #[.int .i64 U, .int .i64 V, .int .i64 U8, .int .i64 V, .int .i64 U8, .int .i64 V8, .int .i64 U, .int .i64 V8] 26)).heap.size (w7.alloc (.cells #[.int .i64 U, .int .i64 V, .int .i64 U8, .int .i64 V, .int .i64 U8, .int .i64 V8, .int .i64 U, .int .i64 V8] 26)) ((w7.alloc (.cells #[.int .i64 U, .int .i64 V, .int .i64 U8, .int .i64 V, .int .i64 U8, .int .i64 V8, .int .i64 U, .int .i64 V8] 26)).alloc (.cells #[.int .i64 U2, .int .i64 V2, .int .i64 U5, .int .i64 V2, .int .i64 U5, .int .i64 V5, .int .i64 U2, .int .i64 V5] 26)) := (Below.refl _ _).alloc (Nat.le_refl _) _
                   have hri : Po.RingAt ((w7.alloc (.cells #[.int .i64 U, .int .i64 V, .int .i64 U8, .int .i64 V, .int .i64 U8, .int .i64 V8, .int .i64 U, .int .i64 V8] 26)).alloc (.cells #[.int .i64 U2, .int .i64 V2, .int .i64 U5, .int .i64 V2, .int .i64 U5, .int .i64 V5, .int .i64 U2, .int .i64 V5] 26)) ((w7.alloc (.cells #[.int .i64 U, .int .i64 V, .int .i64 U8, .int .i64 V, .int .i64 U8, .int .i64 V8, .int .i64 U, .int .i64 V8] 26)).alloc (.cells #[.int .i64 U2, .int .i64 V2, .int .i64 U5, .int .i64 V2, .int .i64 U5, .int .i64 V5, .int .i64 U2, .int .i64 V5] 26)).heap.size (some ⟨w7.heap.size + 1, 0, none⟩) (Po.qd U2 V2 U5 V5) := by
                     have := Po.ringAt_new (w7.alloc (.cells #[.int .i64 U, .int .i64 V, .int .i64 U8, .int .i64 V, .int .i64 U8, .int .i64 V8, .int .i64 U, .int .i64 V8] 26)) (Po.qd U2 V2 U5 V5) 26
                     rw [World.size_alloc] at this
                     exact Po.ring_wider this (by rw [World.size_alloc, World.size_alloc]; exact Nat.le_refl _)
                   have hro2 := Po.ring_wider (hro.below hba (Nat.le_refl _)) hba.size
                   have hb8 : Below w7.heap.size w7 ((w7.alloc (.cells #[.int .i64 U, .int .i64 V, .int .i64 U8, .int .i64 V, .int .i64 U8, .int .i64 V8, .int .i64 U, .int .i64 V8] 26)).alloc (.cells #[.int .i64 U2, .int .i64 V2, .int .i64 U5, .int .i64 V2, .int .i64 U5, .int .i64 V5, .int .i64 U2, .int .i64 V5] 26)) := ((Below.refl _ _).alloc (Nat.le_refl _) _).alloc (by rw [World.size_alloc]; omega) _
                   generalize ((w7.alloc (.cells #[.int .i64 U, .int .i64 V, .int .i64 U8, .int .i64 V, .int .i64 U8, .int .i64 V8, .int .i64 U, .int .i64 V8] 26)).alloc (.cells #[.int .i64 U2, .int .i64 V2, .int .i64 U5, .int .i64 V2, .int .i64 U5, .int .i64 V5, .int .i64 U2, .int .i64 V5] 26)) = w8 at *
                   have hk2 : Po.RgsOK [Po.qd U V U8 V8, Po.qd U2 V2 U5 V5] := qd_two (by omega) (by omega) (by omega) (by omega)
                   have hz1 : U8 - U ≤ 28 * sizeN (12 - R) := by rw [HSS.out]; omega
                   have hz2 : V8 - V ≤ 28 * sizeN (12 - R) := by rw [HSS.out]; omega
                   have hz3 : U5 - U2 ≤ 28 * sizeN (12 - R) := by rw [HSS.out]; omega
                   have hz4 : V5 - V2 ≤ 28 * sizeN (12 - R) := by rw [HSS.out]; omega
                   have hi1 := qd_in (show U ≤ U8 by omega) (show V ≤ V8 by omega)
                   have hi2 := qd_in (show U2 ≤ U5 by omega) (show V2 ≤ V5 by omega)
                   have HF4 := Lib.hid (fun W hW => fill_one hR12 hk2.fst hi1 hz1 hz2 (n := 4) (ci := 4) rfl (by decide) hro2 W hW)
                   have HF5 := Lib.hid (fun W hW => fill_one hR12 hk2.snd hi2 hz3 hz4 (n := 4) (ci := 4) rfl (by decide) hri W hW)
                   have HF6 := Lib.hid (fun W hW => fill_both hR12 hk2 hi1 (fun p hp => by have := hi2 p hp; omega) hz1 hz2 (n1 := 4) (n2 := 4) (ci := 4) (cj := 4) rfl rfl (by decide) (by decide) hro2 hri W hW)
                   have HHO : Hid (∀ {A H G : List Int}, IsFil R [Po.qd U V U8 V8] A → IsFil R [Po.qd U2 V2 U5 V5] H → IsFil R [Po.qd U V U8 V8, Po.qd U2 V2 U5 V5] G → (∀ x, x ∈ G → x ∈ A) ∧ (∀ x, x ∈ A → x ∉ H → x ∈ G) ∧ G.length ≤ A.length ∧ A.length ≤ G.length + H.length) := fun hA hH hG => fil_hole (by omega) (by omega) (by omega) (by omega) hA hH hG
                   have HB8 := Lib.hid (HB7.out.trans (hb8.mono HB7.out.size))
                   have HX0 : Hid (Below w8.heap.size w8 w8) := Below.refl _ _
                   clear hro hba hri hro2 hb8 hk2 hz1 hz2 hz3 hz4 hi1 hi2 hU8 hV8 hU2' hV2' hU5 hV5
                   go_wp2_with fail
                   refine (HF4.out w8 HX0.out).mono ?_
                   rintro e w9 ⟨A, oA, cA, nA, hA, rfl, kA, hb9⟩
                   have HY9 : Hid (Below w8.heap.size w8 w9) := hb9
                   have HLA := Lib.hid (And.intro hA kA)
                   clear hA kA hb9 HF4
                   go_wp2_with fail
                   refine (HF5.out w9 HY9.out).mono ?_
                   rintro e w10 ⟨H, oH, cH, nH, hH, rfl, kH, hb10⟩
                   have HY10 := Lib.hid (HY9.out.trans (hb10.mono HY9.out.size))
                   have HLH := Lib.hid (And.intro hH kH)
                   have HKA := Lib.hid (HLA.out.2.later hb10)
                   clear hH kH hb10 HF5
                   go_wp2_with fail
                   refine (HF6.out w10 HY10.out).mono ?_
                   rintro e w11 ⟨G, oG, cG, nG, hG, rfl, kG, hb11⟩
                   have HY11 := Lib.hid (HB8.out.trans ((HY10.out.trans (hb11.mono HY10.out.size)).mono HB8.out.size))
                   have HKA11 := Lib.hid (HKA.out.later hb11)
                   have HKH11 := Lib.hid (HLH.out.2.later hb11)
                   have HKG := Lib.hid kG
                   obtain ⟨hga, hag, hl1, hl2⟩ := HHO.out HLA.out.1 HLH.out.1 hG
                   have hnA : nA ≤ 20000 := by have := HKA11.out.1; have := HLA.out.1.2.2; omega
                   have hnH : nH ≤ 20000 := by have := HKH11.out.1; have := HLH.out.1.2.2; omega
                   obtain ⟨hnG, hnG2⟩ : nG ≤ nA ∧ nA ≤ nG + nH := by have := HKA11.out.1; have := HKH11.out.1; have := kG.1; omega
                   have hc1 : decide ((nG : Int) < (nA : Int) - (nH : Int)) = false := decide_eq_false (by omega)
                   have hc2 : decide ((nA : Int) < (nG : Int)) = false := decide_eq_false (by omega)
                   have hc3 : ¬ ((nG : Int) < (nA : Int) - (nH : Int)) := by omega
                   have hc4 : ¬ ((nA : Int) < (nG : Int)) := by omega
                   have hc5 : decide (nA < nG) = false := decide_eq_false (by omega)
                   have HGA := Lib.hid hga
                   have HAG := Lib.hid hag
                   have HUA : Hid (Up A) := HLA.out.1.1
                   have HUH : Hid (Up H) := HLH.out.1.1
                   have HUG : Hid (Up G) := hG.1
                   have HNA2 : Hid (nA ≤ 1000000) := by show _ ≤ _; omega
                   have HNG : Hid (nG ≤ 1000000) := by show _ ≤ _; omega
                   have HNH : Hid (nH ≤ 1000000) := by show _ ≤ _; omega
                   clear hG kG hb11 HF6 hga hag hl1 hl2 HKA HLA HLH HHO HY10 HY9 HX0 HB8
                   as_aux_lemma =>
                     go_upto_region 31 with (fail)
                     go_loopw [31] (fun iv wy => ∃ k : Nat, k ≤ nG ∧ iv = .int .i64 k ∧ wy = w11) (fun iv _ => nG - (intOf iv).toNat)
                     case atStart => exact ⟨0, Nat.zero_le _, rfl, rfl⟩
                     case round =>
                       obtain ⟨k, hk, rfl, hwe⟩ := hrel
                       rw [hwe]
                       clear hwe
                       by_cases hlt : k < nG
                       · obtain ⟨gb, off, rfl, hgb, hcc⟩ := HKG.out.2.1 (by rw [← HKG.out.1]; omega)
                         have hX := hcc k (by rw [← HKG.out.1]; exact hlt)
                         have HXA : Hid (G.getD k 0 ∈ A) := by
                           have hkl : k < G.length := by rw [← HKG.out.1]; exact hlt
                           refine HGA.out _ ?_
                           rw [List.getD_eq_getElem?_getD, List.getElem?_eq_getElem hkl]
                           exact List.getElem_mem hkl
                         have HAS := Lib.hid (fun c => rhas_n (c := c) (G.getD k 0) HKA11.out.1 HNA2.out HKA11.out.2.1 HUA.out.rising)
                         rw [(hasF_iff A (G.getD k 0)).2 HXA.out] at HAS
                         generalize G.getD k 0 = XX at *
                         have hki : (k : Int) < (nG : Int) := by omega
                         clear hcc
                         go_wp2_with fail
                         refine (HAS.out _).mono ?_
                         rintro e w12 ⟨rfl, rfl⟩
                         go_wp2
                         go_roundw
                         case rel => exact ⟨k + 1, by omega, by go_num, trivial⟩
                         case measure => simp [intOf]; omega
                       · have hkn : nG = k := by omega
                         subst hkn
                         have hki : ¬ (nG : Int) < (nG : Int) := by omega
                         as_aux_lemma =>
                           go_upto_region 36 with (fail)
                           go_loopw [32] (fun iv wy => ∃ k : Nat, k ≤ nA ∧ iv = .int .i64 k ∧ wy = w11) (fun iv _ => nA - (intOf iv).toNat)
                           case atStart => exact ⟨0, Nat.zero_le _, rfl, rfl⟩
                           case round =>
                             obtain ⟨k, hk, rfl, hwe⟩ := hrel
                             rw [hwe]
                             clear hwe
                             by_cases hlt : k < nA
                             · obtain ⟨gb, off, rfl, hgb, hcc⟩ := HKA11.out.2.1 (by rw [← HKA11.out.1]; omega)
                               have hX := hcc k (by rw [← HKA11.out.1]; exact hlt)
                               obtain ⟨XX, hXX⟩ : ∃ X, A.getD k 0 = X := ⟨_, rfl⟩
                               rw [hXX] at hX
                               have HXA : Hid (XX ∈ A) := by
                                 have hkl : k < A.length := by rw [← HKA11.out.1]; exact hlt
                                 show _ ∈ _
                                 rw [← hXX, List.getD_eq_getElem?_getD, List.getElem?_eq_getElem hkl]
                                 exact List.getElem_mem hkl
                               have HAS := Lib.hid (fun c => rhas_n (c := c) XX HKH11.out.1 HNH.out HKH11.out.2.1 HUH.out.rising)
                               have HAS2 := Lib.hid (fun c => rhas_n (c := c) XX HKG.out.1 HNG.out HKG.out.2.1 HUG.out.rising)
                               have hki : (k : Int) < (nA : Int) := by omega
                               clear hcc hXX
                               cases hhas : hasF H XX with
                               | true =>
                                 rw [hhas] at HAS
                                 go_wp2_with fail
                                 refine (HAS.out _).mono ?_
                                 rintro e w12 ⟨rfl, rfl⟩
                                 go_wp2
                                 go_roundw
                                 case rel => exact ⟨k + 1, by omega, by go_num, trivial⟩
                                 case measure => simp [intOf]; omega
                               | false =>
                                 have hin : hasF G XX = true := (hasF_iff G XX).2 (HAG.out XX HXA.out fun hm => by rw [(hasF_iff H XX).2 hm] at hhas; cases hhas)
                                 rw [hhas] at HAS
                                 rw [hin] at HAS2
                                 clear hin hhas
                                 go_wp2_with fail
                                 refine (HAS.out _).mono ?_
                                 rintro e w12 ⟨rfl, rfl⟩
                                 go_wp2_with fail
                                 refine (HAS2.out _).mono ?_
                                 rintro e w13 ⟨rfl, rfl⟩
                                 go_wp2
                                 go_roundw
                                 case rel => exact ⟨k + 1, by omega, by go_num, trivial⟩
                                 case measure => simp [intOf]; omega
                             · have hkn : nA = k := by omega
                               subst hkn
                               have hki : ¬ (nA : Int) < (nA : Int) := by omega
                               go_wp2_with fail
                               refine (HAW.out _).mono ?_
                               rintro e w14 ⟨rfl, hb14⟩
                               have HX7 := Lib.hid (HY11.out.trans (hb14.mono HY11.out.size))
                               clear hb14
                               go_wp2
                               go_ret
                               exact ⟨rfl, HX7.out⟩
end Go.Proofs.YtpkoapmpknbgoaaGreat.fillApart
