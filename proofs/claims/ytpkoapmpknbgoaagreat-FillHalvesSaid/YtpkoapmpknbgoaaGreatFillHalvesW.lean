/- The walk of the law FillHalves. -/
import Derived.Test.YtpkoapmpknbgoaaGreatPackAK
import Derived.Test.YtpkoapmpknbgoaaGreatPackAI
import Derived.Lib.MinMax
namespace Go.Proofs.YtpkoapmpknbgoaaGreat.fillHalves
open Go.RowKit Go.Lib Wd Cv

theorem rep_same {h l h' l' : Nat} {A : Int} (h1 : Rep h l A) (h2 : Rep h' l' A) : h = h' ∧ l = l' := by
  obtain ⟨a1, a2, a3⟩ := h1
  obtain ⟨b1, b2, b3⟩ := h2
  omega
theorem mod_part (x i s : Int) (hx : 0 ≤ x ∧ x < 1073741824) (hi : 0 ≤ i) (hs : 52 ≤ s) : ∃ A, i.tmod (7 * s) = A ∧ 0 ≤ A ∧ A < 7 * s ∧ ((7 * s : Int) == 0) = false ∧ x ≤ min (x + A) 1073741823 ∧ min (x + A) 1073741823 < 1073741824 ∧ min (x + A) 1073741823 - x < 7 * s := by
  have h1 := Int.emod_nonneg i (show 7 * s ≠ 0 by omega)
  have h2 := Int.emod_lt_of_pos i (show 0 < 7 * s by omega)
  rw [Int.tmod_eq_emod_of_nonneg hi]
  exact ⟨_, rfl, h1, h2, by simp; omega, by omega, by omega, by omega⟩
set_option maxRecDepth 100000 in
set_option maxHeartbeats 16000000 in
theorem walk {w : World} (a0 : Int) (_w0 : (Lit.int .i64 a0).wf = true) (a1 : Int) (_w1 : (Lit.int .i64 a1).wf = true) (a2 : Int) (_w2 : (Lit.int .i64 a2).wf = true) (a3 : Int) (_w3 : (Lit.int .i64 a3).wf = true) (a4 : Int) (_w4 : (Lit.int .i64 a4).wf = true) :
    Calls Tryz.prog 4 #[.int .i64 a0, .int .i64 a1, .int .i64 a2, .int .i64 a3, .int .i64 a4] w fun e w' => e = .returned (.bool true) ∧ Below w.heap.size w w' := by
  have e0 : bits BinOp.and IntKind.i64 a0 1073741823 = a0 % 1073741824 := i64_and_mask a0 30 (by omega) 1073741823 rfl
  have e1 : bits BinOp.and IntKind.i64 a1 1073741823 = a1 % 1073741824 := i64_and_mask a1 30 (by omega) 1073741823 rfl
  have e2 : bits BinOp.and IntKind.i64 a2 4294967295 = a2 % 4294967296 := i64_and_mask a2 32 (by omega) 4294967295 rfl
  have e3 : bits BinOp.and IntKind.i64 a3 4294967295 = a3 % 4294967296 := i64_and_mask a3 32 (by omega) 4294967295 rfl
  obtain ⟨s0, R, q1, q2, q3, q4, hR, -⟩ := res_of a4
  have hx : 0 ≤ a0 % 1073741824 ∧ a0 % 1073741824 < 1073741824 := by omega
  have hy : 0 ≤ a1 % 1073741824 ∧ a1 % 1073741824 < 1073741824 := by omega
  have hW : 0 ≤ a2 % 4294967296 ∧ a2 % 4294967296 < 4294967296 := by omega
  have hH : 0 ≤ a3 % 4294967296 ∧ a3 % 4294967296 < 4294967296 := by omega
  have HAW := Lib.hid awake11_any
  generalize a0 % 1073741824 = x at *
  generalize a1 % 1073741824 = y at *
  generalize a2 % 4294967296 = W at *
  generalize a3 % 4294967296 = H at *
  go_enter Tryz.func4, Tryz.ntmps4
  go_upto_region 5 with (fail)
  go_loopw [11, 12] (fun sv iv wr => ∃ (i : Nat) (s : Int), R ≤ i ∧ i ≤ 12 ∧ sv = .int .i64 s ∧ iv = .int .i64 i ∧ wr = w ∧ Hid (s = sizeN (i - R))) (fun _ iv _ => 12 - (intOf iv).toNat)
  case atStart => exact ⟨R, 52, Nat.le_refl _, hR, rfl, rfl, rfl, by show _ = _; rw [Nat.sub_self]; rfl⟩
  case round =>
    obtain ⟨i, s, hRi, hi12, rfl, rfl, rfl, HS⟩ := hrel
    obtain ⟨s1, s2⟩ := sizeN_pos (m := i - R) (by omega)
    rw [← HS.out] at s1 s2
    by_cases hlt : i < 12
    · have hN : Hid (s * 8 / 3 = sizeN (i + 1 - R)) := by
        show _ = _
        rw [show i + 1 - R = (i - R) + 1 by omega, HS.out]; rfl
      have hi0 : (i : Int) < 12 := by omega
      clear HS
      go_wp2
      refine ⟨⟨i + 1, s * 8 / 3, by omega, by omega, rfl, by rw [show ((i + 1 : Nat) : Int) = (i : Int) + 1 by omega], trivial, hN.out⟩, by simp [intOf]; omega⟩
    · obtain rfl : i = 12 := by omega
      obtain ⟨A, t1, m1, m2, z1, u1, u2, u3⟩ := mod_part x W s hx hW.1 s1
      obtain ⟨B, t2, m3, m4, _, v1, v2, v3⟩ := mod_part y H s hy hH.1 s1
      have HU : Hid (∃ U, min (x + A) 1073741823 = U ∧ x ≤ U ∧ U < 1073741824 ∧ U - x < 7 * sizeN (12 - R)) := ⟨_, rfl, u1, u2, by rw [← HS.out]; exact u3⟩
      have HV : Hid (∃ V, min (y + B) 1073741823 = V ∧ y ≤ V ∧ V < 1073741824 ∧ V - y < 7 * sizeN (12 - R)) := ⟨_, rfl, v1, v2, by rw [← HS.out]; exact v3⟩
      clear u1 u2 u3 v1 v2 v3 hRi HS
      go_upto_region 8 with (fail)
      go_region
      obtain ⟨U, hU, u1, u2, u3⟩ := HU.out
      obtain ⟨V, hV, v1, v2, v3⟩ := HV.out
      rw [hU, hV]
      have HB0 : Hid (Below wr.heap.size wr wr.drew) := (Below.refl _ _).drew
      generalize wr.drew = w1 at *
      have hwu : 0 ≤ U ∧ U < 1073741824 := by omega
      have hwv : 0 ≤ V ∧ V < 1073741824 := by omega
      have hwx : worldB (x, y).1 (x, y).2 = true := (worldB_iff _ _).2 ⟨hx, hy⟩
      have hwq : worldB (U, V).1 (U, V).2 = true := (worldB_iff _ _).2 ⟨hwu, hwv⟩
      have hch : chE (x, y) (U, V) R = 0 := ch_in hR hwx hwq u1 v1
      obtain ⟨⟨b1, b2⟩, b3, b4⟩ := qd_box hx hy hwu hwv u1 v1
      obtain ⟨⟨c1, c2⟩, c3, c4⟩ := t_box hx hy hwu hwv u1 v1
      obtain ⟨k1, k2⟩ := t_ok hx hy hwu hwv
      have hw1 : U - x ≤ 28 * sizeN (12 - R) := by omega
      have hw2 : V - y ≤ 28 * sizeN (12 - R) := by omega
      have hf1 : ∀ W : World, Calls Tryz.prog 8 #[.slice (some ⟨W.heap.size + 1, 0, none⟩) 1 1, .int .i64 R] ((W.alloc (.cells #[.int .i64 x, .int .i64 y, .int .i64 U, .int .i64 y, .int .i64 U, .int .i64 V, .int .i64 x, .int .i64 V] 26)).alloc (.cells #[.slice (some ⟨W.heap.size, 0, none⟩) 4 4] 27)) fun e w' => ∃ L ao c n, IsCen R (x, y) (U, V) L ∧ e = .returned (.tuple #[.slice ao n c, .int .i64 0]) ∧ LAt w' ao n c L ∧ Below W.heap.size W w' := fun W => by
        have hrg := rgAt_lit W (Po.qd x y U V) (by simp [Po.qd]) 4
        refine (fill_few (c := 1) (by simp only [World.size_alloc]; exact Nat.le_refl _) hrg.1 (Po.qd_ok hx hy hwu hwv) (by rw [b1, b2]; exact hch) (by rw [b1, b2]; exact hw1) (by rw [b1, b2]; exact hw2)).mono ?_
        rintro e w' ⟨L, ao, c, n, hL, rfl, hn, ho, hb⟩
        exact ⟨L, ao, c, n, fil_box hx hy hwu hwv u1 v1 (.inl hL), rfl, LAt.of_own hn ho, hrg.2.trans (hb.mono hrg.2.size)⟩
      have hf2 : ∀ W : World, Calls Tryz.prog 8 #[.slice (some ⟨W.heap.size + 1, 0, none⟩) 1 1, .int .i64 R] ((W.alloc (.cells #[.int .i64 x, .int .i64 y, .int .i64 U, .int .i64 y, .int .i64 U, .int .i64 V] 26)).alloc (.cells #[.slice (some ⟨W.heap.size, 0, none⟩) 3 3] 27)) fun e w' => ∃ L ao c n, IsFil R [Po.t1 x y U V] L ∧ e = .returned (.tuple #[.slice ao n c, .int .i64 0]) ∧ LAt w' ao n c L ∧ Below W.heap.size W w' := fun W => by
        have hrg := rgAt_lit W (Po.t1 x y U V) (by simp [Po.t1]) 3
        refine (fill_few (c := 1) (by simp only [World.size_alloc]; exact Nat.le_refl _) hrg.1 k1 (by rw [c1, c2]; exact hch) (by rw [c1, c2]; exact hw1) (by rw [c1, c2]; exact hw2)).mono ?_
        rintro e w' ⟨L, ao, c, n, hL, rfl, hn, ho, hb⟩
        exact ⟨L, ao, c, n, hL, rfl, LAt.of_own hn ho, hrg.2.trans (hb.mono hrg.2.size)⟩
      have hf3 : ∀ W : World, Calls Tryz.prog 8 #[.slice (some ⟨W.heap.size + 1, 0, none⟩) 1 1, .int .i64 R] ((W.alloc (.cells #[.int .i64 x, .int .i64 y, .int .i64 U, .int .i64 V, .int .i64 x, .int .i64 V] 26)).alloc (.cells #[.slice (some ⟨W.heap.size, 0, none⟩) 3 3] 27)) fun e w' => ∃ L ao c n, IsFil R [Po.t2 x y U V] L ∧ e = .returned (.tuple #[.slice ao n c, .int .i64 0]) ∧ LAt w' ao n c L ∧ Below W.heap.size W w' := fun W => by
        have hrg := rgAt_lit W (Po.t2 x y U V) (by simp [Po.t2]) 3
        refine (fill_few (c := 1) (by simp only [World.size_alloc]; exact Nat.le_refl _) hrg.1 k2 (by rw [c3, c4]; exact hch) (by rw [c3, c4]; exact hw1) (by rw [c3, c4]; exact hw2)).mono ?_
        rintro e w' ⟨L, ao, c, n, hL, rfl, hn, ho, hb⟩
        exact ⟨L, ao, c, n, hL, rfl, LAt.of_own hn ho, hrg.2.trans (hb.mono hrg.2.size)⟩
      have HMEM : Hid (∀ {A B C : List Int}, IsFil R [Po.t1 x y U V] A → IsFil R [Po.t2 x y U V] B → IsCen R (x, y) (U, V) C → setF (A ++ B) = C ∧ ∀ w, w ∈ A → w ∈ B → ∃ z, okB R z = true ∧ w = (wordN R z : Nat) ∧ Po.dg x y U V (atE (12 - R) z).1 (atE (12 - R) z).2 = 0) := fun hA hB hC => half_mem hx hy hwu hwv u1 v1 hA hB hC
      have HBNDS : Hid ((∀ (A : List Int), IsFil R [Po.t1 x y U V] A → ∀ w, w ∈ A → ∀ z, okB R z = true → w = (wordN R z : Nat) → (x ≤ (atE (12 - R) z).1 ∧ (atE (12 - R) z).1 ≤ U) ∧ y ≤ (atE (12 - R) z).2 ∧ (atE (12 - R) z).2 ≤ V)) := fun A hA w hw z hz e => by
        rw [hA.2.1] at hw
        obtain ⟨z', a1, a2, _, a4⟩ := hw
        have : z = z' := (word_inj hz a1 (by omega)).2
        subst this
        rw [c1, c2] at a2
        have := (inB_iff _ _ _).1 a2
        exact ⟨⟨this.1, this.2.1⟩, this.2.2⟩
      have HF1 := Lib.hid hf1
      have HF2 := Lib.hid hf2
      have HF3 := Lib.hid hf3
      clear hf1 hf2 hf3 b1 b2 b3 b4 c1 c2 c3 c4 k1 k2 hw1 hw2 hch hwx hwq u3 v3 hU hV HU HV t1 t2 m1 m2 m3 m4 z1
      go_wp2_with fail
      refine (HF1.out w1).mono ?_
      rintro e w2 ⟨C, oC, cC, nC, hC, rfl, kC, hb2⟩
      have HB2 := Lib.hid (HB0.out.trans (hb2.mono HB0.out.size))
      have HLC := Lib.hid (And.intro hC kC)
      clear hC kC hb2 HF1
      go_wp2_with fail
      refine (HF2.out w2).mono ?_
      rintro e w3 ⟨A, oA, cA, nA, hA, rfl, kA, hb3⟩
      have HB3 := Lib.hid (HB2.out.trans (hb3.mono HB2.out.size))
      have HLA := Lib.hid (And.intro hA kA)
      have HKC := Lib.hid (HLC.out.2.later hb3)
      clear hA kA hb3 HF2
      go_wp2_with fail
      refine (HF3.out w3).mono ?_
      rintro e w4 ⟨B, oB, cB, nB, hB, rfl, kB, hb4⟩
      have HB4 := Lib.hid (HB3.out.trans (hb4.mono HB3.out.size))
      have HLB := Lib.hid (And.intro hB kB)
      have HKA := Lib.hid (HLA.out.2.later hb4)
      have HKC4 := Lib.hid (HKC.out.later hb4)
      obtain ⟨hset, hboth⟩ := HMEM.out HLA.out.1 hB HLC.out.1
      have hnA : nA ≤ 20000 := by have := HLA.out.2.1; have := HLA.out.1.2.2; omega
      have hnB : nB ≤ 20000 := by have := kB.1; have := hB.2.2; omega
      have hnC : nC ≤ 20000 := by have := HLC.out.2.1; have := HLC.out.1.2.2; omega
      obtain ⟨y1, wA, xo, xc, wB, r1, r2, hown, hbB⟩ := two_append (w := w4) HKA.out.1 kB.1 HKA.out.2.1 kB.2.1 HKA.out.2.2 kB.2.2 (by omega)
      have hsl : nA + nB = (A ++ B).length := by rw [List.length_append, ← HKA.out.1, ← kB.1]
      have hst := rset_n (ao := xo) (c := xc) hsl (by omega) (words_own hsl hown)
      rw [hset] at hst
      have HST := Lib.hid hst
      have HR1 := Lib.hid r1
      have HR2 := Lib.hid r2
      have HB5 := Lib.hid (HB4.out.trans (hbB.mono HB4.out.size))
      have HK5 := Lib.hid (And.intro (HKA.out.later hbB) (And.intro (kB.later hbB) (HKC4.out.later hbB)))
      have HBO := Lib.hid hboth
      clear hB kB hb4 HF3 hset hboth hst r1 r2 hown hbB hsl HKA HKC4 HKC HB3
      as_aux_lemma =>
        go_upto_region 12 with (fail)
        go_wp2_with (at_builtin; first | refine wpList_append_want _ (by kernel_rfl) (.tmp 121) (.tmp 122) 22 22 rfl (.slice (some ⟨w4.heap.size, 0, none⟩) 0 0) (.slice oA nA cA) (by kernel_rfl) (by kernel_rfl) _ _ HR1.out ?_ | refine wpList_append_want _ (by kernel_rfl) (.tmp 123) (.tmp 124) 22 22 rfl y1 (.slice oB nB cB) (by kernel_rfl) (by kernel_rfl) _ _ HR2.out ?_)
        refine HST.out.mono ?_
        rintro e w6 ⟨so, sc, rfl, hws, hb6⟩
        have hkc := HK5.out.2.2.later hb6
        have hsm := same_n (w := w6) (ao := so) (c := sc) (bo := oC) (d := cC) (a := C) (b := C) rfl hkc.1 (by have := HLC.out.2.1; omega) hws hkc.2.1
        rw [decide_eq_true rfl] at hsm
        have HSM := Lib.hid hsm
        have HB6 := Lib.hid (HB5.out.trans (hb6.mono HB5.out.size))
        have HK6 := Lib.hid (And.intro (HK5.out.1.later hb6) (HK5.out.2.1.later hb6))
        clear hws hb6 hkc hsm HST HR1 HR2 HK5 HB5
        go_wp2_with fail
        refine HSM.out.mono ?_
        rintro e w7 ⟨rfl, hb7⟩
        have HB7 := Lib.hid (HB6.out.trans (hb7.mono HB6.out.size))
        have HK7 := Lib.hid (And.intro (HK6.out.1.later hb7) (HK6.out.2.later hb7))
        clear hb7 HSM HK6 HB6
        as_aux_lemma =>
          go_upto_region 15 with (fail)
          have HAU : Hid (Up B) := HLB.out.1.1
          have HNB : Hid (nB ≤ 1000000) := by show _ ≤ _; omega
          have HBND : Hid (∀ X, X ∈ A → ∀ z, okB R z = true → X = (wordN R z : Nat) → (x ≤ (atE (12 - R) z).1 ∧ (atE (12 - R) z).1 ≤ U) ∧ y ≤ (atE (12 - R) z).2 ∧ (atE (12 - R) z).2 ≤ V) := fun X hX z hz e => HBNDS.out A HLA.out.1 X hX z hz e
          clear HLA HLB HLC HMEM HBNDS
          go_loopw [21] (fun iv wy => ∃ k : Nat, k ≤ nA ∧ iv = .int .i64 k ∧ Hid (Below w7.heap.size w7 wy)) (fun iv _ => nA - (intOf iv).toNat)
          case atStart => exact ⟨0, Nat.zero_le _, rfl, Below.refl _ _⟩
          case round =>
            rename_i wz
            obtain ⟨k, hk, rfl, HY⟩ := hrel
            by_cases hlt : k < nA
            · have hkA := HK7.out.1.later HY.out
              have hkB := HK7.out.2.later HY.out
              obtain ⟨gb, off, rfl, hgb, hcc⟩ := hkA.2.1 (by rw [← hkA.1]; omega)
              have hX := hcc k (by rw [← hkA.1]; exact hlt)
              obtain ⟨X, hXe⟩ : ∃ X, A.getD k 0 = X := ⟨_, rfl⟩
              rw [hXe] at hX
              have HXA : Hid (X ∈ A) := by
                show _ ∈ _
                have hkl : k < A.length := by rw [← hkA.1]; exact hlt
                rw [← hXe, List.getD_eq_getElem?_getD, List.getElem?_eq_getElem hkl]
                exact List.getElem_mem hkl
              have hki : (k : Int) < (nA : Int) := by omega
              have hki0 : (0 : Int) ≤ (k : Int) := by omega
              have HAS := Lib.hid (fun c => rhas_n (c := c) X hkB.1 HNB.out hkB.2.1 HAU.out.rising)
              clear hkA hkB hcc hXe
              cases hhas : hasF B X with
              | false =>
                rw [hhas] at HAS
                go_wp2_with fail
                refine (HAS.out _).mono ?_
                rintro e w8 ⟨rfl, rfl⟩
                go_wp2
                go_roundw
                case rel => exact ⟨k + 1, by omega, by go_num, HY.out⟩
                case measure => simp [intOf]; omega
              | true =>
                rw [hhas] at HAS
                obtain ⟨z, hz, rfl, hdg⟩ := HBO.out X HXA.out ((hasF_iff B X).1 hhas)
                obtain ⟨⟨s1, s2⟩, s3, s4⟩ := HBND.out _ HXA.out z hz rfl
                obtain ⟨v1', v2', v3'⟩ := word_cell hz
                have hltw := (wordN_lt hz).1
                have HC := Lib.hid (rcell_any (wordN R z) (by omega))
                have ec1 : cvR (wordN R z) = R := by unfold cvR; rw [if_pos v1', v2']
                have ec2 : cvZ (wordN R z) = z := by unfold cvZ; rw [if_pos v1', v3']
                have ec3 : cvE (wordN R z) = 0 := by unfold cvE; rw [if_pos v1']
                rw [ec1, ec2, ec3] at HC
                have hsm : Sm 1073741824 z := by
                  have := (shapeB_iff R z).1 ((okB_iff R z).1 hz).1
                  unfold Sm; omega
                have HCE := Lib.hid (fun w => rcentre_in z hsm R hR w)
                generalize wordN R z = wd at *
                generalize atE (12 - R) z = pp at *
                obtain ⟨S, T⟩ := pp
                dsimp only at s1 s2 s3 s4 hdg
                unfold Po.dg at hdg
                have hq1 : IntKind.i64.wrap (S - x) = S - x := wrap_in (by omega) (by omega)
                have hq2 : IntKind.i64.wrap (V - y) = V - y := wrap_in (by omega) (by omega)
                have hq3 : IntKind.i64.wrap (T - y) = T - y := wrap_in (by omega) (by omega)
                have hq4 : IntKind.i64.wrap (U - x) = U - x := wrap_in (by omega) (by omega)
                have HT1 := Lib.hid (fun w => times_rep (S - x) (V - y) (by omega) (by omega) w)
                have HT2 := Lib.hid (fun w => times_rep (T - y) (U - x) (by omega) (by omega) w)
                have HEQ : Hid ((S - x) * (V - y) = (T - y) * (U - x)) := by show _ = _; rw [Int.mul_comm (S - x), Int.mul_comm (T - y)]; omega
                clear v1' v2' v3' ec1 ec2 ec3 hltw hsm hz hdg s1 s2 s3 s4 hhas
                simp only [vC, vE] at *
                go_wp2_with fail
                refine (HAS.out _).mono ?_
                rintro e w8 ⟨rfl, rfl⟩
                clear HAS
                go_wp2_with fail
                refine (HC.out _).mono ?_
                rintro e w9 ⟨rfl, hb9⟩
                have HB9 := Lib.hid (HY.out.trans (hb9.mono HY.out.size))
                clear hb9 HC hX
                go_upto_region 19 with (fail)
                have K1 : Below w9.heap.size w9 (w9.alloc (.cells #[.int .i64 R, .int .i64 z.1, .int .i64 z.2] 39)) := (Below.refl _ _).alloc (Nat.le_refl _) _
                have x1 : (w9.alloc (.cells #[.int .i64 R, .int .i64 z.1, .int .i64 z.2] 39)).heap[w9.heap.size]? = some (.cells #[.int .i64 R, .int .i64 z.1, .int .i64 z.2] 39 (0, 0)) := heap_new _ _ _ rfl
                have HB10 := Lib.hid (HB9.out.trans (K1.mono HB9.out.size))
                generalize w9.alloc (.cells #[.int .i64 R, .int .i64 z.1, .int .i64 z.2] 39) = w10 at *
                generalize w9.heap.size = d at *
                have d0 : w10.cell? ⟨d, 0, none⟩ = some (.int .i64 R) := cell_of_row _ _ 0 _ _ _ x1
                have d1 : w10.cell? ⟨d, 1, none⟩ = some (.int .i64 z.1) := cell_of_row _ _ 1 _ _ _ x1
                have d2 : w10.cell? ⟨d, 2, none⟩ = some (.int .i64 z.2) := cell_of_row _ _ 2 _ _ _ x1
                have hd := (Array.getElem?_eq_some_iff.1 x1).1
                clear K1 x1 HB9
                go_wp2_with fail
                refine (HCE.out _).mono ?_
                rintro e w11 ⟨rfl, hb11⟩
                have HB11 := Lib.hid (HB10.out.trans (hb11.mono HB10.out.size))
                clear hb11 d0 d1 d2 hd HCE HB10
                go_wp2_with fail
                refine (HT1.out _).mono ?_
                rintro e w12 ⟨h1, l1, rfl, r1, hb12⟩
                have HB12 := Lib.hid (HB11.out.trans (hb12.mono HB11.out.size))
                have HRP := Lib.hid r1
                clear hb12 r1 HT1 HB11
                go_wp2_with fail
                refine (HT2.out _).mono ?_
                rintro e w13 ⟨h2, l2, rfl, r2, hb13⟩
                have HB13 := Lib.hid (HB12.out.trans (hb13.mono HB12.out.size))
                obtain ⟨rfl, rfl⟩ : h1 = h2 ∧ l1 = l2 := rep_same (by rw [← HEQ.out]; exact HRP.out) r2
                clear hb13 r2 HT2 HB12 HRP HEQ
                go_wp2
                go_roundw
                case rel => exact ⟨k + 1, by omega, by go_num, HB13.out⟩
                case measure => simp [intOf]; omega
            · have hkn : nA = k := by omega
              subst hkn
              have hki : ¬ (nA : Int) < (nA : Int) := by omega
              have HBY := Lib.hid (HB7.out.trans (HY.out.mono HB7.out.size))
              clear HY
              go_wp2_with fail
              refine (HAW.out _).mono ?_
              rintro e w14 ⟨rfl, hb14⟩
              have HX7 := Lib.hid (HBY.out.trans (hb14.mono HBY.out.size))
              clear hb14
              go_wp2
              go_ret
              exact ⟨rfl, HX7.out⟩
end Go.Proofs.YtpkoapmpknbgoaaGreat.fillHalves
