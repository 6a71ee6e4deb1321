/- The walk of the law FillPacks. -/
import Derived.Test.YtpkoapmpknbgoaaGreatPackBL
import Derived.Test.YtpkoapmpknbgoaaGreatPackBM
import Derived.Test.YtpkoapmpknbgoaaGreatPackBJ
import Derived.Lib.MinMax
set_option maxRecDepth 100000
set_option maxHeartbeats 16000000
namespace Go.Proofs.YtpkoapmpknbgoaaGreat.fillPacks
section
open Go.RowKit Go.Lib Wd Cv
theorem intsAt_of {κ : IntKind} {w : World} {x : Addr} {n : Nat} {zs : List Int} (h : ∀ i, i < zs.length → w.cell? (x.add i) = some (.int κ (zs.getD i 0))) (hn : n ≤ zs.length) : IntsAtK κ w w.heap.size (some x) n fun i => zs.getD i 0 := by
  intro h0
  obtain ⟨b, off, spot⟩ := x
  have hspot : spot = none := by simpa [Addr.add] using World.cell?_spot (h 0 (by omega))
  subst hspot
  have hadd : ∀ i, (⟨b, off, none⟩ : Addr).add i = ⟨b, off + i, none⟩ := fun i => by unfold Addr.add; split <;> simp_all
  have hc : ∀ i, i < zs.length → w.cell? ⟨b, off + i, none⟩ = some (.int κ (zs.getD i 0)) := fun i hi => by rw [← hadd]; exact h i hi
  exact ⟨b, off, rfl, World.block_lt_of_cell? w _ (hc 0 (by omega)), fun i hi => hc i (by omega)⟩
theorem walk {w : World} (a0 : Int) (_w0 : (Lit.int .i64 a0).wf = true) (a1 : Int) (_w1 : (Lit.int .i64 a1).wf = true) (a2 : Option Addr) (n2 c2 : Nat) (z2 : Nat -> Int) (h2 : IntsAtK .i64 w w.heap.size a2 n2 z2) (_b2 : ∀ i, i < n2 -> (Lit.int .i64 (z2 i)).wf = true) (s2 : n2 * 8 <= 140737488351232) (a3 : Int) (_w3 : (Lit.int .i64 a3).wf = true) :
  Calls Tryz.prog 7 #[.int .i64 a0, .int .i64 a1, .slice a2 n2 c2, .int .i64 a3] w fun e w' => e = .returned (.bool true) /\ Below w.heap.size w w' := by
 obtain ⟨S, R, hS, hS1, hS2, hRe, hR, -⟩ := res_of a3;have hrg := lrings_any a0 a1 a2 n2 c2 z2 R hR w h2 (by omega);have HRG := Lib.hid hrg;have HAW := Lib.hid awake11_any;have hX : 0 <= a0 % 1073741824 := by omega
 have hY : 0 <= a1 % 1073741824 := by omega
 obtain ⟨sz, hsz⟩ : ∃ q, sizeN (12 - R) = q := ⟨_, rfl⟩;have hsz0 : 0 <= sz := by have := (sizeN_pos (m := 12 - R) (by omega)).1; omega
 have HOK : Hid (∀ ls : List (List (Int × Int)), RingsOK (a0 % 1073741824) (a1 % 1073741824) (sizeN (12 - R)) ls -> 0 < ls.length -> Po.RgsOK ls /\ ∀ l ∈ ls, ∀ p ∈ l, (a0 % 1073741824 <= p.1 /\ p.1 <= a0 % 1073741824 + 7 * sz) /\ a1 % 1073741824 <= p.2 /\ p.2 <= a1 % 1073741824 + 7 * sz) := fun ls h h0 => by rw [hsz] at h; exact rgs_ok hX hY h h0
 have HSZ := Lib.hid hsz;generalize a0 % 1073741824 = X at *;generalize a1 % 1073741824 = Y at *;clear hrg h2 _b2 hX hY hsz
 go_enter Tryz.func7, Tryz.ntmps7
 go_upto_region 2 with (first | rw [hS] | rw [hRe])
 go_wp2_with fail
 refine HRG.out.mono ?_;rintro e w1 ⟨v, ls, rfl, hls, ⟨vs, hown, hor⟩, hb1⟩;obtain ⟨ro, rc, rfl, hrc, hrh⟩ := own_form hown;have HB1 := Lib.hid hb1;have HOK1 := Lib.hid (HOK.out ls hls);obtain ⟨nl, hnl⟩ : ∃ nl, ls.length = nl := ⟨_, rfl⟩;have HAT : Hid (Po.RgsOK ls -> RgAt w1 w1.heap.size ro nl ls) := fun hk => by subst hnl; exact rgs_at hown hor rfl hk
 rw [hnl] at HOK1;rw [hnl];clear hown hor hb1 hrc hrh hls hnl HRG HOK;by_cases hgo : nl = 0 ∨ 40 < n2
 ·obtain ⟨q, hq⟩ : ∃ q, ((nl : Int) == 0) = q := ⟨_, rfl⟩
  have hq2 : q = false -> decide ((40 : Int) < (n2 : Int)) = true := fun e => by
   subst e;rw [beq_eq_false_iff_ne] at hq;exact decide_eq_true (by omega)
  clear hgo;cases q
  ·have q2 := hq2 rfl
   clear hq2
   go_wp2_with fail
   refine (HAW.out _).mono ?_;rintro e w2 ⟨rfl, hb2⟩;have HB2 := Lib.hid (HB1.out.trans (hb2.mono HB1.out.size));clear hb2;go_wp2;go_ret;exact ⟨rfl, HB2.out⟩
  ·clear hq2
   go_wp2_with fail
   refine (HAW.out _).mono ?_;rintro e w2 ⟨rfl, hb2⟩;have HB2 := Lib.hid (HB1.out.trans (hb2.mono HB1.out.size));clear hb2;go_wp2;go_ret;exact ⟨rfl, HB2.out⟩
 ·have g1 : ((nl : Int) == 0) = false := by rw [beq_eq_false_iff_ne]; omega
  have g2 : decide ((40 : Int) < (n2 : Int)) = false := decide_eq_false (by omega);obtain ⟨hk, hb⟩ := HOK1.out (by omega);have HAT1 := Lib.hid (HAT.out hk);have HFI : Hid (∀ W, Below w1.heap.size w1 W -> Calls Tryz.prog 8 #[.slice ro nl rc, .int .i64 R] W (GoodF W R ls id)) := fun W hW => rgs_good hR hk hb HSZ.out hsz0 HAT1.out hW
  have HBO : Hid (∀ W, Below w1.heap.size w1 W -> Calls Tryz.prog 21 #[.slice ro nl rc, .int .i64 R] W (GoodF W R ls bordL)) := fun W hW => border_good (HFI.out W hW)
  have HPK : Hid (∀ W, Below w1.heap.size w1 W -> Calls Tryz.prog 22 #[.slice ro nl rc, .int .i64 R] W (GoodF W R ls cmpL)) := fun W hW => packed_good (HFI.out W hW)
  clear hgo hk hb HOK1 HAT HAT1 HSZ hsz0
  go_wp2_with fail
  refine (HFI.out w1 (Below.refl _ _)).mono ?_;rintro e w2 ⟨L, lo, lc, ln, hL, rfl, kL, hb2⟩;have HY2 : Hid (Below w1.heap.size w1 w2) := hb2;have HL := Lib.hid hL;have HKL : Hid (LAt w2 lo ln lc L) := kL;clear hL kL hb2 HFI
  go_wp2_with fail
  refine (HBO.out w2 HY2.out).mono ?_;rintro e w3 ⟨M, bo, bc, bn, hM, rfl, kM, hb3⟩;obtain rfl := isFil_eq HL.out hM;have HY3 := Lib.hid (HY2.out.trans (hb3.mono HY2.out.size));have HKL3 := Lib.hid (HKL.out.later hb3);have HKB := Lib.hid kM;clear hM kM hb3 HBO HKL HY2
  go_wp2_with fail
  refine (HPK.out w3 HY3.out).mono ?_;rintro e w4 ⟨N, po, pc, pn, hN, rfl, kN, hb4⟩;obtain rfl := isFil_eq HL.out hN;have HY4 := Lib.hid (HB1.out.trans ((HY3.out.trans (hb4.mono HY3.out.size)).mono HB1.out.size));have HKL4 := Lib.hid (HKL3.out.later hb4);have HKB4 := Lib.hid (HKB.out.later hb4);have HBN : Hid (bn <= ln) := by
   show _ <= _;rw [HKB4.out.1, HKL4.out.1];exact List.length_filter_le _ _
  have hln : ln <= 20000 := by have := HKL4.out.1; have := HL.out.2.2; omega
  obtain ⟨hp1, hp2, hp3, hp4, hp5⟩ := fil_pack hR HL.out;have hs := rspread_any po pc (cmpL N) R w4 w4.heap.size kN.2.1 (Nat.le_refl _) (by omega) hp5;rw [hp2, hp3, <- kN.1] at hs;have HS := Lib.hid hs;have HSZ2 := Lib.hid (fil_sized HL.out);clear hN kN hb4 HPK HKL3 HKB HY3 hs hp1 hp2 hp3 hp4 hp5
  go_wp2_with fail
  refine HS.out.mono ?_;rintro e w5 ⟨so, sc, rfl, hso, hb5⟩;have HKL5 := Lib.hid (HKL4.out.later hb5);have HKB5 := Lib.hid (HKB4.out.later hb5);have HB5 := Lib.hid (HY4.out.trans (hb5.mono HY4.out.size));have hlen : N.length = ln := HKL5.out.1.symm;have hsm := same_n (w := w5) (ao := so) (c := sc) (bo := lo) (d := lc) (n := N.length) (m := ln) (a := N) (b := N) rfl HKL5.out.1 (by omega) (words_own rfl hso) HKL5.out.2.1;rw [decide_eq_true rfl] at hsm;have HSM := Lib.hid hsm;clear hso hb5 hsm HKL4 HKB4 HY4 HS hlen
  go_wp2_with fail
  refine HSM.out.mono ?_;rintro e w6 ⟨rfl, hb6⟩;have HKL6 := Lib.hid (HKL5.out.later hb6);have HKB6 := Lib.hid (HKB5.out.later hb6);have HB6 := Lib.hid (HB5.out.trans (hb6.mono HB5.out.size));clear hb6 HKL5 HKB5 HB5 HSM;have HUP : Hid (Up N) := HL.out.1;clear HL g1 g2
  go_upto_region 14 with (fail)
  go_loopw [18] (fun iv wy => ∃ k : Nat, k <= ln /\ iv = .int .i64 k /\ Below w6.heap.size w6 wy) (fun iv _ => ln - (intOf iv).toNat)
  case atStart => exact ⟨0, Nat.zero_le _, rfl, Below.refl _ _⟩
  case round =>
   obtain ⟨k, hk, rfl, hwy⟩ := hrel;by_cases hlt : k < ln
   ·have hkl : k < N.length := by rw [<- HKL6.out.1]; exact hlt
    have hkm : N.getD k 0 ∈ N := by rw [List.getD_eq_getElem?_getD, List.getElem?_eq_getElem hkl]; exact List.getElem_mem hkl
    have HKY := HKL6.out.later hwy;obtain ⟨gb, off, rfl, hgb, hcc⟩ := HKY.2.1 (by omega);have c0 := hcc k hkl;have h6 := nb_len HSZ2.out hkm;have hbq := (bord_has hkm).trans (bord_count (L := N) (l := nbL (N.getD k 0)) h6);obtain ⟨z, hz, hx⟩ := HSZ2.out _ hkm;have hw64 := (wordN_lt hz).1;rw [hx] at c0 hbq h6;unfold nbL at hbq h6;rw [Int.toNat_natCast] at hbq h6;generalize wordN R z = wd at *;have HN := Lib.hid (rnei_own wd (by omega) wr);have hki : (k : Int) < (ln : Int) := by omega
    have HWY := Lib.hid hwy;have HQ := Lib.hid hbq;clear hkl hkm HKY hcc hz hx hw64 hbq hwy;generalize rgsL wd 1 1 1 = nb at *;generalize rgsE wd 1 1 = ne at *
    go_wp2_with fail
    refine HN.out.mono ?_;rintro e w7 ⟨no, nc, rfl, hno, hb7⟩;have HW7 := Lib.hid (HWY.out.trans (hb7.mono HWY.out.size));have HKL7 := Lib.hid (HKL6.out.later HW7.out);have HKB7 := Lib.hid (HKB6.out.later HW7.out);have HNB := Lib.hid (LAt.of_own rfl hno);have c1 := (hb7.cell (p := ⟨gb, off + k, none⟩) hgb).trans c0;have hgb7 : gb < w7.heap.size := Nat.lt_of_lt_of_le hgb hb7.size;obtain ⟨nn, hnn⟩ : ∃ nn, nb.length = nn := ⟨_, rfl⟩;rw [hnn] at HNB h6;rw [hnn];have HNN := Lib.hid hnn;clear hno hb7 c0 hgb HN HWY hnn
    go_upto_region 19 with (fail)
    go_loopw [21, 22] (fun kv jv wz => ∃ j cnt : Nat, j <= nn /\ cnt <= j /\ kv = .int .i64 cnt /\ jv = .int .i64 j /\ wz = w7 /\ Hid ((nb.take j).countP (hasF N) = cnt)) (fun _ jv _ => nn - (intOf jv).toNat)
    case atStart => exact ⟨0, 0, Nat.zero_le _, Nat.le_refl _, rfl, rfl, rfl, rfl⟩
    case round =>
     obtain ⟨j, cnt, hj, hcj, rfl, rfl, hwe, HC⟩ := hrel;rw [hwe];clear hwe;by_cases hltj : j < nn
     ·obtain ⟨g2, off2, rfl, hg2, hcc2⟩ := HNB.out.2.1 (by rw [<- HNB.out.1]; omega)
      have hjl : j < nb.length := by rw [<- HNB.out.1]; exact hltj
      have d0 := hcc2 j hjl;have HT : Hid ((nb.take (j + 1)).countP (hasF N) = cnt + if hasF N (nb.getD j 0) then 1 else 0) := by
       show _ = _;rw [List.take_succ_eq_append_getElem hjl, List.countP_append, HC.out, List.countP_singleton, List.getD_eq_getElem?_getD, List.getElem?_eq_getElem hjl, Option.getD_some]
      have HAS := Lib.hid (fun c => rhas_n (c := c) (nb.getD j 0) HKL7.out.1 (by omega) HKL7.out.2.1 HUP.out.rising);generalize nb.getD j 0 = y at *;have hji : (j : Int) < (nn : Int) := by omega
      clear hcc2 hjl HC;cases hhas : hasF N y with
      | true =>
       rw [hhas] at HAS HT;have HT2 : Hid ((nb.take (j + 1)).countP (hasF N) = cnt + 1) := HT.out;clear hhas HT
       go_wp2_with fail
       refine (HAS.out _).mono ?_;rintro e w8 ⟨rfl, rfl⟩;go_wp2
       go_roundw
       case rel => exact ⟨j + 1, cnt + 1, by omega, by omega, by go_num, by go_num, trivial, HT2⟩
       case measure => simp [intOf]; omega
      | false =>
       rw [hhas] at HAS HT;have HT2 : Hid ((nb.take (j + 1)).countP (hasF N) = cnt) := HT.out;clear hhas HT
       go_wp2_with fail
       refine (HAS.out _).mono ?_;rintro e w8 ⟨rfl, rfl⟩;go_wp2
       go_roundw
       case rel => exact ⟨j + 1, cnt, by omega, by omega, rfl, by go_num, trivial, HT2⟩
       case measure => simp [intOf]; omega
     ·have hjn : nn = j := by omega
      subst hjn;have hji : ¬ (nn : Int) < (nn : Int) := by omega
      have HCN : Hid (hasF (bordL N) (wd : Int) = decide (cnt < 6)) := by
       show _ = _;rw [HQ.out, <- HC.out, List.take_of_length_le (by rw [HNN.out]; exact Nat.le_refl _)]
      have HAS := Lib.hid (fun c => rhas_n (c := c) (wd : Int) HKB7.out.1 (by have := HBN.out; omega) HKB7.out.2.1 (bord_up HUP.out).rising);rw [HCN.out] at HAS;clear HC HCN HQ;by_cases h66 : cnt < 6
      ·rw [decide_eq_true h66] at HAS
       have q6 : decide ((cnt : Int) < 6) = true := decide_eq_true (by omega)
       go_wp2_with fail
       refine (HAS.out _).mono ?_;rintro e w8 ⟨rfl, rfl⟩;go_wp2
       go_roundw
       case rel => exact ⟨k + 1, by omega, by go_num, HW7.out⟩
       case measure => simp [intOf]; omega
      ·rw [decide_eq_false h66] at HAS
       have q6 : decide ((cnt : Int) < 6) = false := decide_eq_false (by omega)
       go_wp2_with fail
       refine (HAS.out _).mono ?_;rintro e w8 ⟨rfl, rfl⟩;go_wp2
       go_roundw
       case rel => exact ⟨k + 1, by omega, by go_num, HW7.out⟩
       case measure => simp [intOf]; omega
   ·have hkn : ln = k := by omega
    subst hkn;have hki : ¬ (ln : Int) < (ln : Int) := by omega
    have HWY := Lib.hid (HB6.out.trans (hwy.mono HB6.out.size));have hbn : (bn : Int) <= (ln : Int) := by have := HBN.out; omega
    have q7 : decide ((bn : Int) <= (ln : Int)) = true := decide_eq_true hbn;clear hwy HB6
    go_wp2_with fail
    refine (HAW.out _).mono ?_;rintro e w9 ⟨rfl, hb9⟩;have HB9 := Lib.hid (HWY.out.trans (hb9.mono HWY.out.size));clear hb9;go_wp2;go_ret;exact ⟨rfl, HB9.out⟩
end
end Go.Proofs.YtpkoapmpknbgoaaGreat.fillPacks
