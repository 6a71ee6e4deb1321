/- The walk of the law PackBounds. -/
import Derived.Test.YtkjfdaleamonaaaGreatPackAJ
import Derived.OwnWalk
namespace Go.Proofs.YtkjfdaleamonaaaGreat.packBounds
open Go.RowKit Go.Lib Go.Sort Wd

theorem rep_all (M : Nat) {W : Nat} (h : isW W = true) : allW (List.replicate M (W : Int)) = true := by
  unfold allW
  rw [List.all_eq_true]
  intro v hv
  obtain rfl := List.eq_of_mem_replicate hv
  exact h
theorem rep_sum (t : Nat) {W : Nat} (h : rW W = 0) : ∀ M, sumS t (List.replicate M (W : Int)) = M * 7 ^ t
  | 0 => by simp [sumS]
  | M + 1 => by
    rw [List.replicate_succ]
    simp only [sumS, Int.toNat_natCast, h, Nat.sub_zero]
    rw [rep_sum t h M, Nat.add_mul]; omega
theorem rep_E {t M W : Nat} (hw : isW W = true) (h : rW W = 0) (ht : t ≤ 12) : szE (List.replicate M (W : Int)) t = if 1099511627776 < M * 7 ^ t then 7 else 0 := by
  unfold szE
  rw [rep_all M hw, if_neg (by simp), if_neg, if_neg (by omega), Int.toNat_natCast, rep_sum t h]
  rw [Bool.not_eq_true, List.any_eq_false]
  intro v hv
  obtain rfl := List.eq_of_mem_replicate hv
  rw [Int.toNat_natCast, h]
  simp
theorem rep_neg {M W : Nat} (hM : 0 < M) (hw : isW W = true) : szE (List.replicate M (W : Int)) (-1) = 8 := by
  unfold szE
  rw [rep_all M hw, if_neg (by simp), if_pos]
  rw [List.any_eq_true]
  refine ⟨W, List.mem_replicate.2 ⟨by omega, rfl⟩, ?_⟩
  rw [decide_eq_true_eq]
  omega
theorem rep_N {t M W : Nat} (hw : isW W = true) (h : rW W = 0) (ht : t ≤ 12) : szN (List.replicate M (W : Int)) t = if 1099511627776 < M * 7 ^ t then 0 else ((M * 7 ^ t : Nat) : Int) := by
  unfold szN
  rw [rep_E hw h ht, Int.toNat_natCast, rep_sum t h]
  by_cases hb : 1099511627776 < M * 7 ^ t
  · rw [if_pos hb, if_neg (by decide), if_pos hb]
  · rw [if_neg hb, if_pos rfl, if_neg hb]
theorem rep_sE {t M W : Nat} (hw : isW W = true) (h : rW W = 0) (ht : t ≤ 12) : sprE (List.replicate M (W : Int)) t = if 20000 < M * 7 ^ t then 7 else 0 := by
  unfold sprE
  rw [rep_E hw h ht, Int.toNat_natCast, rep_sum t h]
  by_cases hb : 1099511627776 < M * 7 ^ t
  · rw [if_pos hb, if_neg (by decide), if_pos (by omega)]
  · rw [if_neg hb, if_pos rfl]
theorem rep_sL {t M : Nat} {z : E2} (hM : 0 < M) (hz : okB (0 : Nat) z = true) (ht : t ≤ 12) : (sprL (List.replicate M (wordN 0 z : Int)) t).length = if 20000 < M * 7 ^ t then 0 else 7 ^ t := by
  obtain ⟨w1, w2, w3⟩ := word_cell hz
  unfold sprL
  rw [rep_sE w1 w2 ht]
  by_cases hb : 20000 < M * 7 ^ t
  · rw [if_pos hb, if_neg (by decide), if_pos hb]; rfl
  · rw [if_neg hb, if_pos rfl, if_neg hb]
    have e : setF ((List.replicate M (wordN 0 z : Int)).flatMap (dsV ((t : Nat) : Int).toNat)) = dsN t 0 z := by
      refine (setF_up _).ext (ds_up t 0 z (by omega) hz) fun x => ?_
      rw [setF_mem, List.mem_flatMap, Int.toNat_natCast]
      have e2 : dsV t (wordN 0 z : Int) = dsN t 0 z := by
        unfold dsV
        rw [Int.toNat_natCast, w2, w3, Nat.sub_zero]
      constructor
      · rintro ⟨v, hv, hx⟩
        obtain rfl := List.eq_of_mem_replicate hv
        rwa [e2] at hx
      · intro hx
        exact ⟨_, List.mem_replicate.2 ⟨by omega, rfl⟩, by rw [e2]; exact hx⟩
    rw [e, ds_len]
theorem nil_E : szE [] 13 = 1 := by
  unfold szE
  rw [if_neg (by decide), if_neg (by decide), if_pos (.inr (by decide))]
def Fill (w : World) (g n : Nat) (W : Int) (k : Nat) : Prop := ∀ j, j < n → w.cell? ⟨g, j, none⟩ = some (.int .u64 (if j < k then W else 0))
theorem Fill.step {w : World} {g n k : Nat} {W : Int} (h : Fill w g n W k) : Fill (w.setCell ⟨g, k, none⟩ (.int .u64 W)) g n W (k + 1) := fun j hj => by
  by_cases e : j = k
  · subst e
    rw [World.cell?_setCell_same _ _ _ (h j hj), if_pos (by omega)]
  · rw [World.cell?_setCell_other _ _ _ _ (by simp), h j hj]
    by_cases h2 : j < k
    · rw [if_pos h2, if_pos (by omega)]
    · rw [if_neg h2, if_neg (by omega)]
theorem Fill.words {w : World} {g n : Nat} {W : Int} (h : Fill w g n W n) (hg : g < w.heap.size) : WordsAt w w.heap.size (some ⟨g, 0, none⟩) (List.replicate n W) := fun _ => by
  refine ⟨g, 0, rfl, hg, fun i hi => ?_⟩
  rw [List.length_replicate] at hi
  rw [Nat.zero_add, h i hi, if_pos hi]
  simp [List.getD_eq_getElem?_getD, hi]
def ToldL (n : Nat) (err : Int) (w : World) (e : Ending) (w' : World) : Prop := ∃ ao c, e = .returned (.tuple #[.slice ao n c, .int .i64 err]) ∧ Below w.heap.size w w'
theorem sz_rep {t M : Nat} {z : E2} (hM : M ≤ 64) (hz : okB (0 : Nat) z = true) (ht : t ≤ 12) {ao : Option Addr} {c : Nat} {wx : World} (h : WordsAt wx wx.heap.size ao (List.replicate M (wordN 0 z : Int))) :
    Calls Tryz.prog 29 #[.slice ao M c, .int .i64 t] wx fun e w' => e = .returned (.tuple #[.int .i64 (if 1099511627776 < M * 7 ^ t then 0 else ((M * 7 ^ t : Nat) : Int)), .int .i64 (if 1099511627776 < M * 7 ^ t then 7 else 0)]) ∧ Below wx.heap.size wx w' := by
  obtain ⟨w1, w2, -⟩ := word_cell hz
  have hl := (wordN_lt hz).1
  have h1 := psize_any ao c _ t wx wx.heap.size h (Nat.le_refl _) (by rw [List.length_replicate]; omega) (in64_rep M (by omega))
  rwa [List.length_replicate, rep_N w1 w2 ht, rep_E w1 w2 ht] at h1
theorem sn_rep {M : Nat} {z : E2} (h0 : 0 < M) (hM : M ≤ 64) (hz : okB (0 : Nat) z = true) {ao : Option Addr} {c : Nat} {wx : World} (h : WordsAt wx wx.heap.size ao (List.replicate M (wordN 0 z : Int))) :
    Calls Tryz.prog 29 #[.slice ao M c, .int .i64 (-1)] wx fun e w' => (∃ q, e = .returned (.tuple #[.int .i64 q, .int .i64 8])) ∧ Below wx.heap.size wx w' := by
  obtain ⟨w1, w2, -⟩ := word_cell hz
  have hl := (wordN_lt hz).1
  have h1 := psize_any ao c _ (-1) wx wx.heap.size h (Nat.le_refl _) (by rw [List.length_replicate]; omega) (in64_rep M (by omega))
  rw [List.length_replicate, rep_neg h0 w1] at h1
  refine h1.mono ?_
  rintro e w' ⟨rfl, hb⟩
  exact ⟨⟨_, rfl⟩, hb⟩
theorem s0 (wx : World) : Calls Tryz.prog 29 #[.slice none 0 0, .int .i64 13] wx fun e w' => (∃ q, e = .returned (.tuple #[.int .i64 q, .int .i64 1])) ∧ Below wx.heap.size wx w' := by
  have h1 := psize_any none 0 [] 13 wx wx.heap.size (fun h => by simp at h) (Nat.le_refl _) (by simp) in64_nil
  rw [nil_E] at h1
  refine h1.mono ?_
  rintro e w' ⟨rfl, hb⟩
  exact ⟨⟨_, rfl⟩, hb⟩
theorem sp_rep {t M : Nat} {z : E2} (h0 : 0 < M) (hM : M ≤ 64) (hz : okB (0 : Nat) z = true) (ht : t ≤ 12) {ao : Option Addr} {c : Nat} {wx : World} (h : WordsAt wx wx.heap.size ao (List.replicate M (wordN 0 z : Int))) :
    Calls Tryz.prog 25 #[.slice ao M c, .int .i64 t] wx (ToldL (if 20000 < M * 7 ^ t then 0 else 7 ^ t) (if 20000 < M * 7 ^ t then 7 else 0) wx) := by
  obtain ⟨w1, w2, -⟩ := word_cell hz
  have hl := (wordN_lt hz).1
  have h1 := spread_any ao c _ t wx wx.heap.size h (Nat.le_refl _) (by rw [List.length_replicate]; omega) (in64_rep M (by omega))
  rw [List.length_replicate] at h1
  refine h1.mono ?_
  rintro e w' ⟨ao, c, rfl, -, -, hb⟩
  rw [rep_sE w1 w2 ht, rep_sL h0 hz ht]
  exact ⟨ao, c, rfl, hb⟩
set_option maxRecDepth 100000 in
set_option maxHeartbeats 8000000 in
theorem walk {w : World} (a0 : Int) (_w0 : (Lit.int .i64 a0).wf = true) (a1 : Int) (_w1 : (Lit.int .i64 a1).wf = true) (a2 : Int) (_w2 : (Lit.int .i64 a2).wf = true) (a3 : Int) (_w3 : (Lit.int .i64 a3).wf = true) :
    Calls Tryz.prog 9 #[.int .i64 a0, .int .i64 a1, .int .i64 a2, .int .i64 a3] w fun e w' => e = .returned (.bool true) ∧ Below w.heap.size w w' := by
  obtain ⟨i0, hi, hz0, hz1, hz2⟩ := info_parts info_u
  have HAW := Lib.hid awake8_any
  have hLA := fun w => lword_w a0 a1 0 w
  have hA := some_ok a0 a1 (r := 0) (by omega)
  have HLA : Hid (∀ w, Calls Tryz.prog 14 #[.int .i64 a0, .int .i64 a1, .int .i64 0] w fun e w' => e = .returned (.int .u64 (wordN 0 (someE a0 a1 0) : Nat)) ∧ Below w.heap.size w w') := hLA
  obtain ⟨e2, ee2, he2⟩ : ∃ e : Nat, bits BinOp.and IntKind.i64 a2 255 = (e : Int) ∧ e ≤ 255 := ⟨(a2 % 256).toNat, by rw [i64_and_mask a2 8 (by omega) 255 rfl]; omega, by omega⟩
  obtain ⟨t, ht1, ht⟩ : ∃ t : Nat, (e2 : Int).tmod 13 = t ∧ t ≤ 12 := ⟨e2 % 13, by rw [Int.tmod_eq_emod_of_nonneg (by omega)]; omega, by omega⟩
  obtain ⟨e3, ee3, he3⟩ : ∃ e : Nat, bits BinOp.and IntKind.i64 a3 63 = (e : Int) ∧ e ≤ 63 := ⟨(a3 % 64).toNat, by rw [i64_and_mask a3 6 (by omega) 63 rfl]; omega, by omega⟩
  obtain ⟨M, hM⟩ : ∃ M : Nat, (e3 : Int) + 1 = (M : Int) := ⟨e3 + 1, by omega⟩
  have n1 : M ≤ 64 := by omega
  have n2 : 0 < M := by omega
  have HSZ : Hid (∀ (ao : Option Addr) (c : Nat) (wx : World), WordsAt wx wx.heap.size ao (List.replicate M (wordN 0 (someE a0 a1 0) : Int)) → _) := fun ao c wx h => sz_rep (c := c) n1 hA ht h
  have HSN : Hid (∀ (ao : Option Addr) (c : Nat) (wx : World), WordsAt wx wx.heap.size ao (List.replicate M (wordN 0 (someE a0 a1 0) : Int)) → _) := fun ao c wx h => sn_rep (c := c) n2 n1 hA h
  have HSP : Hid (∀ (ao : Option Addr) (c : Nat) (wx : World), WordsAt wx wx.heap.size ao (List.replicate M (wordN 0 (someE a0 a1 0) : Int)) → _) := fun ao c wx h => sp_rep (c := c) n2 n1 hA ht h
  have HS0 := Lib.hid s0
  have HSV : Hid (∀ w, Calls Tryz.prog 31 #[.int .i64 t] w fun e w' => e = .returned (.int .i64 ((7 ^ t : Nat) : Int)) ∧ Below w.heap.size w w') := fun w => by
    have := rseven_in t ht w
    rwa [show ((7 : Int) ^ t) = ((7 ^ t : Nat) : Int) by rw [Int.natCast_pow]; rfl] at this
  have hX := seven_le ht
  have hP : M * 7 ^ t ≤ 64 * 13841287201 := Nat.mul_le_mul n1 hX
  have hXP : 7 ^ t ≤ M * 7 ^ t := Nat.le_mul_of_pos_left _ n2
  have hmul : ((M : Int) * ((7 ^ t : Nat) : Int)) = ((M * 7 ^ t : Nat) : Int) := by rw [Int.natCast_mul]
  generalize M * 7 ^ t = P at *
  generalize 7 ^ t = X at *
  have q0 : IntKind.i64.wrap ((M : Int) * (X : Int)) = (P : Int) := by rw [hmul]; exact IntWalk.i64_in _ (by omega)
  generalize (wordN 0 (someE a0 a1 0)) = W at *
  have Q0 := Lib.hid q0
  clear hLA hA hmul q0
  go_enter Tryz.func9, Tryz.ntmps9
  go_wp2_with fail
  refine (HLA.out _).mono ?_
  rintro e w1 ⟨rfl, hb1⟩
  have HB1 := Lib.hid hb1
  clear hb1
  go_upto_region 5 with (at_make; refine wpList_make_full _ rfl (.tmp 31) (.tmp 31) 22 rfl w1.heap.size 25 i0 (.int .u64 0) 1 Tryz.underlying22 hi hz0 hz1 .i64 .i64 _ _ M rfl rfl (by omega) (by omega) (by rw [hz2]; omega) (by unfold maxLen; omega) (by omega) ?_; intro w2 hmk hgk)
  have HB2 := Lib.hid (HB1.out.trans ((below_grown0 hgk).mono HB1.out.size))
  have hg1 : w1.heap.size < w2.heap.size := (hmk.lt w1.heap.size rfl).2
  have hF0 : Hid (Fill w2 w1.heap.size M W 0) := fun j hj => by
    rw [hmk.cellAt j (by omega)]
    have e1 : (madeCells (Value.int .u64 0).cells (M * 1)).toList = List.replicate M (.int .u64 0) := made_zeros M
    rw [e1, List.getElem?_replicate, if_pos hj, if_neg (by omega)]
  have hz : Hid (∀ j, w2.frozen? ⟨w1.heap.size, j, none⟩ = false) := fun j => by
    rcases hmk.2 with ⟨h0, _⟩ | ⟨g, cap, cur, h0, _, hh, _⟩
    · cases h0
    · cases h0
      simp [World.frozen?, hh]
  have hs1 : w.heap.size ≤ w1.heap.size := HB1.out.size
  clear hmk hgk HB1
  go_wp2
  go_loopw [35] (fun i wr => ∃ k : Nat, k ≤ M ∧ i = .int .i64 k ∧ Hid (Fill wr w1.heap.size M W k) ∧ Hid (∀ j, wr.frozen? ⟨w1.heap.size, j, none⟩ = false) ∧ w1.heap.size < wr.heap.size ∧ Below w.heap.size w wr) (fun i _ => M - (intOf i).toNat)
  case atStart => exact ⟨0, Nat.zero_le _, rfl, hF0, hz, hg1, HB2.out⟩
  case round =>
    obtain ⟨k, hk, rfl, HF, HZ, hgw, hnx⟩ := hrel
    by_cases hlt : k < M
    · have c0 := HF.out k hlt
      rw [if_neg (by omega)] at c0
      have f0 := HZ.out k
      go_wp2
      go_roundw
      case rel => exact ⟨k + 1, by omega, by go_num, HF.out.step, fun j => by rw [World.frozen?_setCell]; exact HZ.out j, by simpa using hgw, hnx.setCell hs1 _⟩
      case measure => simp [intOf]; omega
    · obtain rfl : k = M := by omega
      have HW := Lib.hid (HF.out.words hgw)
      have HN := Lib.hid hnx
      clear HF HZ hF0 hz hnx HB2
      have q0 := Q0.out
      go_wp2_with fail
      refine (HSV.out _).mono ?_
      rintro e w3 ⟨rfl, hb3⟩
      have HB3 := Lib.hid (HN.out.trans (hb3.mono HN.out.size))
      have HW3 : Hid (WordsAt w3 w3.heap.size (some ⟨w1.heap.size, 0, none⟩) (List.replicate k (W : Int))) := (HW.out.below hb3 (Nat.le_refl _)).wider hb3.size
      clear hb3 HW HN
      by_cases hbig : 1099511627776 < P
      · have hmid : 20000 < P := by omega
        have H1 : Hid (Calls Tryz.prog 29 #[.slice (some ⟨w1.heap.size, 0, none⟩) k k, .int .i64 t] w3 fun e w' => e = .returned (.tuple #[.int .i64 0, .int .i64 7]) ∧ Below w3.heap.size w3 w') := by have := HSZ.out (some ⟨w1.heap.size, 0, none⟩) k w3 HW3.out; rwa [if_pos hbig, if_pos hbig] at this
        have H2 : Hid (∀ wx, WordsAt wx wx.heap.size (some ⟨w1.heap.size, 0, none⟩) (List.replicate k (W : Int)) → Calls Tryz.prog 25 #[.slice (some ⟨w1.heap.size, 0, none⟩) k k, .int .i64 t] wx (ToldL 0 7 wx)) := fun wx h => by have := HSP.out (some ⟨w1.heap.size, 0, none⟩) k wx h; rwa [if_pos hmid, if_pos hmid] at this
        have q1 : decide (1099511627776 < (P : Int)) = true := by simp; omega
        have q2 : decide (20000 < (P : Int)) = true := by simp; omega
        clear HSZ HSP
        go_wp2_with fail
        refine (H1.out).mono ?_
        rintro e w4 ⟨rfl, hb4⟩
        have HB4 := Lib.hid (HB3.out.trans (hb4.mono HB3.out.size))
        have HW4 : Hid (WordsAt w4 w4.heap.size (some ⟨w1.heap.size, 0, none⟩) (List.replicate k (W : Int))) := (HW3.out.below hb4 (Nat.le_refl _)).wider hb4.size
        clear hb4 HB3 HW3
        go_wp2_with fail
        refine (H2.out _ HW4.out).mono ?_
        rintro e w5 ⟨o5, k5, rfl, hb5⟩
        have HB5 := Lib.hid (HB4.out.trans (hb5.mono HB4.out.size))
        have HW5 : Hid (WordsAt w5 w5.heap.size (some ⟨w1.heap.size, 0, none⟩) (List.replicate k (W : Int))) := (HW4.out.below hb5 (Nat.le_refl _)).wider hb5.size
        clear hb5 HB4 HW4
        go_wp2_with fail
        refine (HSN.out _ k _ HW5.out).mono ?_
        rintro e w6 ⟨⟨z6, rfl⟩, hb6⟩
        have HB6 := Lib.hid (HB5.out.trans (hb6.mono HB5.out.size))
        clear hb6 HB5
        go_wp2_with fail
        refine (HS0.out _).mono ?_
        rintro e w7 ⟨⟨z7, rfl⟩, hb7⟩
        have HB7 := Lib.hid (HB6.out.trans (hb7.mono HB6.out.size))
        clear hb7 HB6
        go_wp2_with fail
        refine (HAW.out _).mono ?_
        rintro e w8 ⟨rfl, hbz⟩
        have hb := HB7.out.trans (hbz.mono HB7.out.size)
        clear hbz HB7
        go_wp2
        go_ret
        exact ⟨rfl, hb⟩
      · by_cases hmid : 20000 < P
        · have H1 : Hid (Calls Tryz.prog 29 #[.slice (some ⟨w1.heap.size, 0, none⟩) k k, .int .i64 t] w3 fun e w' => e = .returned (.tuple #[.int .i64 (P : Int), .int .i64 0]) ∧ Below w3.heap.size w3 w') := by have := HSZ.out (some ⟨w1.heap.size, 0, none⟩) k w3 HW3.out; rwa [if_neg hbig, if_neg hbig] at this
          have H2 : Hid (∀ wx, WordsAt wx wx.heap.size (some ⟨w1.heap.size, 0, none⟩) (List.replicate k (W : Int)) → Calls Tryz.prog 25 #[.slice (some ⟨w1.heap.size, 0, none⟩) k k, .int .i64 t] wx (ToldL 0 7 wx)) := fun wx h => by have := HSP.out (some ⟨w1.heap.size, 0, none⟩) k wx h; rwa [if_pos hmid, if_pos hmid] at this
          have q1 : decide (1099511627776 < (P : Int)) = false := by simp; omega
          have q2 : decide (20000 < (P : Int)) = true := by simp; omega
          clear HSZ HSP
          go_wp2_with fail
          refine (H1.out).mono ?_
          rintro e w4 ⟨rfl, hb4⟩
          have HB4 := Lib.hid (HB3.out.trans (hb4.mono HB3.out.size))
          have HW4 : Hid (WordsAt w4 w4.heap.size (some ⟨w1.heap.size, 0, none⟩) (List.replicate k (W : Int))) := (HW3.out.below hb4 (Nat.le_refl _)).wider hb4.size
          clear hb4 HB3 HW3
          go_wp2_with fail
          refine (H2.out _ HW4.out).mono ?_
          rintro e w5 ⟨o5, k5, rfl, hb5⟩
          have HB5 := Lib.hid (HB4.out.trans (hb5.mono HB4.out.size))
          have HW5 : Hid (WordsAt w5 w5.heap.size (some ⟨w1.heap.size, 0, none⟩) (List.replicate k (W : Int))) := (HW4.out.below hb5 (Nat.le_refl _)).wider hb5.size
          clear hb5 HB4 HW4
          go_wp2_with fail
          refine (HSN.out _ k _ HW5.out).mono ?_
          rintro e w6 ⟨⟨z6, rfl⟩, hb6⟩
          have HB6 := Lib.hid (HB5.out.trans (hb6.mono HB5.out.size))
          clear hb6 HB5
          go_wp2_with fail
          refine (HS0.out _).mono ?_
          rintro e w7 ⟨⟨z7, rfl⟩, hb7⟩
          have HB7 := Lib.hid (HB6.out.trans (hb7.mono HB6.out.size))
          clear hb7 HB6
          go_wp2_with fail
          refine (HAW.out _).mono ?_
          rintro e w8 ⟨rfl, hbz⟩
          have hb := HB7.out.trans (hbz.mono HB7.out.size)
          clear hbz HB7
          go_wp2
          go_ret
          exact ⟨rfl, hb⟩
        · have H1 : Hid (Calls Tryz.prog 29 #[.slice (some ⟨w1.heap.size, 0, none⟩) k k, .int .i64 t] w3 fun e w' => e = .returned (.tuple #[.int .i64 (P : Int), .int .i64 0]) ∧ Below w3.heap.size w3 w') := by have := HSZ.out (some ⟨w1.heap.size, 0, none⟩) k w3 HW3.out; rwa [if_neg hbig, if_neg hbig] at this
          have H2 : Hid (∀ wx, WordsAt wx wx.heap.size (some ⟨w1.heap.size, 0, none⟩) (List.replicate k (W : Int)) → Calls Tryz.prog 25 #[.slice (some ⟨w1.heap.size, 0, none⟩) k k, .int .i64 t] wx (ToldL X 0 wx)) := fun wx h => by have := HSP.out (some ⟨w1.heap.size, 0, none⟩) k wx h; rwa [if_neg hmid, if_neg hmid] at this
          have q1 : decide (1099511627776 < (P : Int)) = false := by simp; omega
          have q2 : decide (20000 < (P : Int)) = false := by simp; omega
          clear HSZ HSP
          go_wp2_with fail
          refine (H1.out).mono ?_
          rintro e w4 ⟨rfl, hb4⟩
          have HB4 := Lib.hid (HB3.out.trans (hb4.mono HB3.out.size))
          have HW4 : Hid (WordsAt w4 w4.heap.size (some ⟨w1.heap.size, 0, none⟩) (List.replicate k (W : Int))) := (HW3.out.below hb4 (Nat.le_refl _)).wider hb4.size
          clear hb4 HB3 HW3
          go_wp2_with fail
          refine (H2.out _ HW4.out).mono ?_
          rintro e w5 ⟨o5, k5, rfl, hb5⟩
          have HB5 := Lib.hid (HB4.out.trans (hb5.mono HB4.out.size))
          have HW5 : Hid (WordsAt w5 w5.heap.size (some ⟨w1.heap.size, 0, none⟩) (List.replicate k (W : Int))) := (HW4.out.below hb5 (Nat.le_refl _)).wider hb5.size
          clear hb5 HB4 HW4
          go_wp2_with fail
          refine (HSN.out _ k _ HW5.out).mono ?_
          rintro e w6 ⟨⟨z6, rfl⟩, hb6⟩
          have HB6 := Lib.hid (HB5.out.trans (hb6.mono HB5.out.size))
          clear hb6 HB5
          go_wp2_with fail
          refine (HS0.out _).mono ?_
          rintro e w7 ⟨⟨z7, rfl⟩, hb7⟩
          have HB7 := Lib.hid (HB6.out.trans (hb7.mono HB6.out.size))
          clear hb7 HB6
          go_wp2_with fail
          refine (HSV.out _).mono ?_
          rintro e w8 ⟨rfl, hb8⟩
          have HB8 := Lib.hid (HB7.out.trans (hb8.mono HB7.out.size))
          clear hb8 HB7
          go_wp2_with fail
          refine (HAW.out _).mono ?_
          rintro e w9 ⟨rfl, hbz⟩
          have hb := HB8.out.trans (hbz.mono HB8.out.size)
          clear hbz HB8
          go_wp2
          go_ret
          exact ⟨rfl, hb⟩
end Go.Proofs.YtkjfdaleamonaaaGreat.packBounds
