/- The walk of the law QueueChanged. -/
import Derived.Test.YtbmhnadnomngnaaQJ
namespace Go.Proofs.Ytbmhnadnomngnaa.queueChanged
open Go.RowKit Go.Lib

/-- What may be there behind the changes. -/
def Good (z : Nat → Int) (n a b : Nat) (v : Int) (p : Wt) : Prop := ∃ j : Nat, j < n ∧ j ≠ b ∧ p = ((j : Int), if j = a then v else z j)
def Seen (M : List Wt) (a b : Nat) (v : Int) (sn : Nat) : Prop := sn = 1 ↔ a ≠ b ∧ ((a : Int), v) ∉ M
/-- Set of a, drop of b, maybe a push of a. -/
theorem good_all {z : Nat → Int} {n a b : Nat} {v : Int} (ha : a < n) {L0 L1 L2 L3 : List Wt} (h0 : ∀ p, p ∈ L0 ↔ ∃ j : Nat, j < n ∧ p = wn z j)
    (h1 : ∀ p, p ∈ L1 ↔ p = ((a : Int), v) ∨ (p ∈ L0 ∧ p.1 ≠ (a : Int))) (h2 : ∀ p, p ∈ L2 ↔ p ∈ L1 ∧ p.1 ≠ (b : Int)) (h3 : (a = b ∧ L3 = L2) ∨ (a ≠ b ∧ ∀ p, p ∈ L3 ↔ p = ((a : Int), v) ∨ (p ∈ L2 ∧ p.1 ≠ (a : Int)))) :
    (∀ p ∈ L3, Good z n a b v p) ∧ (((a : Int), v) ∈ L3 ↔ a ≠ b) := by
  have g1 : ∀ p ∈ L1, ∃ j : Nat, j < n ∧ p = ((j : Int), if j = a then v else z j) := fun p hp => by
    rcases (h1 p).1 hp with rfl | ⟨h, hne⟩
    · exact ⟨a, ha, by rw [if_pos rfl]⟩
    · obtain ⟨j, hj, rfl⟩ := (h0 p).1 h
      have : j ≠ a := fun e => hne (by show (j : Int) = a; omega)
      exact ⟨j, hj, by rw [if_neg this]; rfl⟩
  have g2 : ∀ p ∈ L2, Good z n a b v p := fun p hp => by
    obtain ⟨h, hne⟩ := (h2 p).1 hp
    obtain ⟨j, hj, rfl⟩ := g1 p h
    exact ⟨j, hj, fun e => hne (by show (j : Int) = b; omega), rfl⟩
  rcases h3 with ⟨e, rfl⟩ | ⟨hne, h3⟩
  · refine ⟨g2, ⟨fun h => ?_, fun h => absurd e h⟩⟩
    exact absurd (show ((a : Int)) = (b : Int) by omega) ((h2 _).1 h).2
  · refine ⟨fun p hp => ?_, ⟨fun _ => hne, fun _ => (h3 _).2 (.inl rfl)⟩⟩
    rcases (h3 p).1 hp with rfl | ⟨h, _⟩
    · exact ⟨a, ha, hne, by rw [if_pos rfl]⟩
    · exact g2 p h

set_option maxRecDepth 100000 in
set_option maxHeartbeats 4000000 in
theorem core (w : World) (a0 : Option Addr) (n0 c0 : Nat) (z : Nat → Int) (h0 : IntsAtK .i64 w w.heap.size a0 n0 z) (b0 : ∀ i, i < n0 → (Lit.int .i64 (z i)).wf = true) (s0 : n0 ≤ 17592186044404) (a1 v b1 : Int) (hv : (Lit.int .i64 v).wf = true) :
    Calls Try.prog 4 #[.slice a0 n0 c0, .int .i64 a1, .int .i64 v, .int .i64 b1] w fun e w' => e = .returned (.bool true) ∧ Below w.heap.size w w' := by
  have hnp : ∀ (w : World) (a : Addr), (binOp .eql 23 (.pointer (some a)) (.pointer none)).run Try.prog w = .ok (.bool false) w := fun w a => by kernel_rfl
  have hnq : ∀ (w : World) (a : Addr), (binOp .neq 23 (.pointer (some a)) (.pointer none)).run Try.prog w = .ok (.bool true) w := fun w a => by kernel_rfl
  obtain ⟨n, hn, hn40, hn0⟩ : ∃ n : Nat, min (n0 : Int) 40 = (n : Int) ∧ n ≤ 40 ∧ n ≤ n0 := ⟨min n0 40, by omega, by omega, by omega⟩
  obtain ⟨ta, eta, hta⟩ : ∃ t : Nat, bits BinOp.and IntKind.i64 a1 255 = (t : Int) ∧ t ≤ 255 := ⟨(a1 % 256).toNat, by rw [i64_and_mask a1 8 (by omega) 255 rfl]; omega, by omega⟩
  obtain ⟨tb, etb, htb⟩ : ∃ t : Nat, bits BinOp.and IntKind.i64 b1 255 = (t : Int) ∧ t ≤ 255 := ⟨(b1 % 256).toNat, by rw [i64_and_mask b1 8 (by omega) 255 rfl]; omega, by omega⟩
  obtain ⟨X, hX⟩ : ∃ X : Nat → Prop, X = fun k => k < w.heap.size := ⟨_, rfl⟩
  have HX : Hid (∀ k, X k ↔ k < w.heap.size) := fun k => by rw [hX]
  have HN := Lib.hid (one_new X w (fun k h => (HX.out k).1 h))
  have HI := Lib.hid h0
  have HBW := Lib.hid b0
  have HV := Lib.hid hv
  have HAW := Lib.hid awake16_any
  have HBELOW : Hid (∀ wx, Stay X w wx → Below w.heap.size w wx) := fun wx hx => hx.below (Nat.le_refl _) fun k hk => (HX.out k).2 hk
  clear h0 b0 hX hv
  go_enter Try.func4, Try.ntmps4
  go_upto_region 1 with (fail)
  go_cut [9] from 16 to 18 (fun v wx => v = .int .i64 n ∧ wx = w)
  case first =>
    go_wp2
    all_goals
      go_meet
      first
        | exact ⟨by rw [show (n0 : Int) = (n : Int) by omega], rfl⟩
        | exact ⟨by rw [show (40 : Int) = (n : Int) by omega], rfl⟩
  case rest =>
  obtain ⟨rfl, rfl⟩ := hcut
  clear hn
  go_wp2_with fail
  refine HN.out.mono ?_
  rintro e w1 ⟨q, rfl, h1, hb1⟩
  have H1 : Hid (One X w1 q [] ∧ Stay X wc w1) := ⟨h1, Stay.of_below hb1⟩
  clear h1 hb1 HN
  by_cases h2 : n < 2
  · have q1 : decide (n < 2) = true := by simpa using h2
    go_wp2_with fail
    refine (HAW.out _).mono ?_
    rintro e w2 ⟨rfl, hb⟩
    have HF := Lib.hid (HBELOW.out _ (H1.out.2.trans (Stay.of_below hb)))
    clear hb
    go_wp2
    go_ret
    exact ⟨rfl, HF.out⟩
  · have q1 : decide (n < 2) = false := by simpa using h2
    go_wp2_with fail
    go_loopw [11] (fun i wr => ∃ (k : Nat) (L : List Wt), k ≤ n ∧ i = .int .i64 k ∧ Hid ((∀ p, p ∈ L ↔ ∃ j : Nat, j < k ∧ p = wn z j) ∧ L.length ≤ k ∧ One X wr q L ∧ Stay X wc wr)) (fun i _ => n - (intOf i).toNat)
    case atStart => exact ⟨0, [], Nat.zero_le _, rfl, fun p => by simp, Nat.le_refl _, H1.out⟩
    case round =>
      obtain ⟨k, L, hk, rfl, HR⟩ := hrel
      by_cases hlt : k < n
      · obtain ⟨bb, off, rfl, hbb, hc⟩ := (HI.out.below (HBELOW.out _ HR.out.2.2.2) (Nat.le_refl _)) (by omega)
        have c1 := hc k (by omega)
        have hbw : bb < wr.heap.size := Nat.lt_of_lt_of_le hbb HR.out.2.2.2.size
        have hw1 : IntKind.u64.wrap (k : Int) = (k : Int) := by rw [IntKind.wrap_u64]; omega
        have HP := Lib.hid (push_mem HR.out.2.2.1 (wn z k) ⟨wf_u64 (show (0 : Int) ≤ (k : Int) by omega) (show (k : Int) ≤ _ by omega), HBW.out k (by omega)⟩ (by have := HR.out.2.1; omega))
        unfold aggW wn at HP
        clear hc
        go_wp2_with fail
        refine HP.out.mono ?_
        rintro e w2 ⟨rfl, L', hm, hl, ho, hs⟩
        have HN2 : Hid ((∀ p, p ∈ L' ↔ ∃ j : Nat, j < k + 1 ∧ p = wn z j) ∧ L'.length ≤ k + 1 ∧ One X w2 q L' ∧ Stay X wc w2) := by
          refine ⟨fun p => ?_, by have := HR.out.2.1; omega, ho, HR.out.2.2.2.trans hs⟩
          rw [hm p, HR.out.1 p]
          constructor
          · rintro (rfl | ⟨⟨j, hj, rfl⟩, _⟩)
            · exact ⟨k, by omega, rfl⟩
            · exact ⟨j, by omega, rfl⟩
          · rintro ⟨j, hj, rfl⟩
            by_cases e : j = k
            · subst e; exact .inl rfl
            · exact .inr ⟨⟨j, by omega, rfl⟩, show (j : Int) ≠ (k : Int) by omega⟩
        clear hm hl ho hs HP HR
        go_wp2
        go_roundw
        case rel => exact ⟨k + 1, L', by omega, by go_num, HN2.out⟩
        case measure => simp [intOf]; omega
      · obtain rfl : k = n := by omega
        obtain ⟨a, ha, han⟩ : ∃ s, ta % k = s ∧ s < k := ⟨_, rfl, Nat.mod_lt _ (by omega)⟩
        have haI : (ta : Int) % (k : Int) = (a : Int) := by have := congrArg (fun x : Nat => (x : Int)) ha; simpa using this
        obtain ⟨b, hb, hbn⟩ : ∃ s, tb % k = s ∧ s < k := ⟨_, rfl, Nat.mod_lt _ (by omega)⟩
        have hbI : (tb : Int) % (k : Int) = (b : Int) := by have := congrArg (fun x : Nat => (x : Int)) hb; simpa using this
        clear ha hb q1
        have hw1 : IntKind.u64.wrap (a : Int) = (a : Int) := by rw [IntKind.wrap_u64]; omega
        have hw2 : IntKind.u64.wrap (b : Int) = (b : Int) := by rw [IntKind.wrap_u64]; omega
        go_upto_region 9 with (fail)
        go_upto_region 10 with (first | (with_reducible refine wp_region_lex (by kernel_rfl) (by kernel_rfl) ?_) | (with_reducible refine OnlyG.intro (by kernel_rfl) ?_))
        simp only [haI, hbI]
        have hk63 : (k : Int) ≤ 40 := by omega
        have wa : (Lit.int .u64 (a : Int)).wf = true := wf_u64 (by omega) (by omega)
        have wb : (Lit.int .u64 (b : Int)).wf = true := wf_u64 (by omega) (by omega)
        have ho := HR.out.2.2.1.later (Below.refl wr.heap.size wr).drew
        have HS0 := Lib.hid (HR.out.2.2.2.trans (Stay.of_below (Below.refl wr.heap.size wr).drew))
        have HP1 := Lib.hid (set_mem ho wa HV.out)
        have HM0 := Lib.hid HR.out.1
        have HL0 := Lib.hid HR.out.2.1
        have HWB := Lib.hid wb
        clear ho wa wb HR haI hbI eta etb
        go_wp2_with fail
        refine HP1.out.mono ?_
        rintro e w2 ⟨o, L1, rfl, hb1, hm1, hl1, ho1, hs1⟩
        obtain rfl : o = true := hb1.2 ⟨wn z a, (HM0.out _).2 ⟨a, han, rfl⟩, rfl⟩
        have HM1 : Hid (∀ p, p ∈ L1 ↔ p = ((a : Int), v) ∨ (p ∈ L ∧ p.1 ≠ (a : Int))) := fun p => by rw [hm1 p]; simp
        have HNAT : Hid (∀ p ∈ L1, ∃ j : Nat, j < k ∧ p.1 = (j : Int)) := fun p hp => by
          rcases (HM1.out p).1 hp with rfl | ⟨h, _⟩
          · exact ⟨a, han, rfl⟩
          · obtain ⟨j, hj, rfl⟩ := (HM0.out p).1 h
            exact ⟨j, hj, rfl⟩
        have HBT : Hid (∃ p ∈ L1, p.1 = (b : Int)) := by
          by_cases e : b = a
          · exact ⟨_, (HM1.out _).2 (.inl rfl), by rw [e]⟩
          · exact ⟨wn z b, (HM1.out _).2 (.inr ⟨(HM0.out _).2 ⟨b, hbn, rfl⟩, show (b : Int) ≠ (a : Int) by omega⟩), rfl⟩
        have HLL1 : Hid (L1.length ≤ k) := by show _ ≤ _; rw [hl1]; exact HL0.out
        have HS1 := Lib.hid (HS0.out.trans hs1)
        have HP2 := Lib.hid (drop_mem ho1 HWB.out)
        clear hb1 hm1 hl1 ho1 hs1 HP1 HS0
        go_wp2_with fail
        refine HP2.out.mono ?_
        rintro e w3 ⟨o, L2, rfl, hb2, hm2, hl2, ho2, hs2⟩
        obtain rfl : o = true := hb2.2 HBT.out
        have HM2 := Lib.hid hm2
        have HS2 := Lib.hid (HS1.out.trans hs2)
        have HP3 := Lib.hid (drop_mem ho2 HWB.out)
        have HLL2 : Hid (L2.length ≤ k) := by have := HLL1.out; show _ ≤ _; simp at hl2; omega
        clear hb2 hm2 hl2 ho2 hs2 HP2 HS1 HBT
        go_wp2_with fail
        refine HP3.out.mono ?_
        rintro e w4 ⟨o, L3, rfl, hb3, hm3, hl3, ho3, hs3⟩
        obtain rfl : o = false := by
          cases o with
          | false => rfl
          | true => obtain ⟨p, hp, e⟩ := hb3.1 rfl; exact absurd e ((HM2.out p).1 hp).2
        have HM3 : Hid (∀ p, p ∈ L3 ↔ p ∈ L1 ∧ p.1 ≠ (b : Int)) := fun p => by rw [hm3 p, HM2.out p]; exact ⟨fun h => h.1, fun h => ⟨h, h.2⟩⟩
        have HS3 := Lib.hid (HS2.out.trans hs3)
        have HP4 := Lib.hid (set_mem (v := 5) ho3 HWB.out (by decide))
        have HLL3 : Hid (L3.length ≤ k) := by have := HLL2.out; show _ ≤ _; simp at hl3; omega
        clear hb3 hm3 hl3 ho3 hs3 HP3 HS2 HM2
        go_wp2_with fail
        refine HP4.out.mono ?_
        rintro e w5 ⟨o, L4, rfl, hb4, hm4, hl4, ho4, hs4⟩
        obtain rfl : o = false := by
          cases o with
          | false => rfl
          | true => obtain ⟨p, hp, e⟩ := hb4.1 rfl; exact absurd e ((HM3.out p).1 hp).2
        have HM4 : Hid (∀ p, p ∈ L4 ↔ p ∈ L1 ∧ p.1 ≠ (b : Int)) := fun p => by
          rw [hm4 p, HM3.out p]
          constructor
          · rintro (⟨h, _⟩ | h)
            · cases h
            · exact h.1
          · exact fun h => .inr ⟨h, h.2⟩
        have HS4 := Lib.hid (HS3.out.trans hs4)
        have HP5 := Lib.hid (set_mem (id := 99) (v := 5) ho4 (by decide) (by decide))
        have HLL4 : Hid (L4.length ≤ k) := by have := HLL3.out; show _ ≤ _; omega
        clear hb4 hm4 hl4 ho4 hs4 HP4 HS3 HM3
        go_wp2_with fail
        refine HP5.out.mono ?_
        rintro e w6 ⟨o, L5, rfl, hb5, hm5, hl5, ho5, hs5⟩
        have hno : ∀ p ∈ L4, p.1 ≠ (99 : Int) := fun p hp e => by
          obtain ⟨j, hj, e2⟩ := HNAT.out p ((HM4.out p).1 hp).1
          omega
        obtain rfl : o = false := by
          cases o with
          | false => rfl
          | true => obtain ⟨p, hp, e⟩ := hb5.1 rfl; exact absurd e (hno p hp)
        have HM5 : Hid (∀ p, p ∈ L5 ↔ p ∈ L1 ∧ p.1 ≠ (b : Int)) := fun p => by
          rw [hm5 p, ← HM4.out p]
          constructor
          · rintro (⟨h, _⟩ | h)
            · cases h
            · exact h.1
          · exact fun h => .inr ⟨h, hno p h⟩
        have HS5 := Lib.hid (HS4.out.trans hs5)
        have HO5 := Lib.hid ho5
        have hl5' : L5.length ≤ k := by have := HLL4.out; omega
        clear hb5 hm5 hl5 ho5 hs5 HP5 HS4 HM4 hno
        by_cases hab : a = b
        case' pos =>
          have qab : ((a : Int) != (b : Int)) = false := by simp; omega
          have hgd := good_all (z := z) (v := v) han HM0.out HM1.out HM5.out (L3 := L5) (.inl ⟨hab, rfl⟩)
          have HG : Hid ((∀ p ∈ L5, Good z k a b v p) ∧ (((a : Int), v) ∈ L5 ↔ a ≠ b) ∧ One X w6 q L5 ∧ Stay X wc w6) := ⟨hgd.1, hgd.2, HO5.out, HS5.out⟩
          obtain ⟨L6, hL6⟩ : ∃ l, L5 = l := ⟨_, rfl⟩
          rw [hL6] at HG
          clear hgd HM0 HM1 HM5 HO5 HS5 HNAT HL0 hL6
          obtain ⟨w7, hw7⟩ : ∃ W, w6 = W := ⟨_, rfl⟩
          rw [hw7] at HG ⊢
          have HSF : Hid (∀ sn : Nat, sn ≤ 1 → (sn = 1 ↔ a ≠ b) → ((sn : Int) == 1) = false) := fun sn h1 h2 => by
            have h3 : sn ≠ 1 := fun e => h2.1 e hab
            rw [beq_eq_false_iff_ne]; omega
          clear hw7 hab
          go_upto_region 14 with (fail)
        case' neg =>
          have qab : ((a : Int) != (b : Int)) = true := by simp; omega
          have hwa : (Lit.int .u64 (a : Int)).wf = true := wf_u64 (by omega) (by omega)
          have hln : L5.length ≤ 1000 := by omega
          have HP6 := Lib.hid (push_mem HO5.out ((a : Int), v) ⟨hwa, HV.out⟩ (by omega))
          unfold aggW at HP6
          go_wp2_with fail
          refine HP6.out.mono ?_
          rintro e w7 ⟨rfl, L6, hm6, hl6, ho6, hs6⟩
          have hgd := good_all (z := z) (v := v) han HM0.out HM1.out HM5.out (L3 := L6) (.inr ⟨hab, hm6⟩)
          have HG : Hid ((∀ p ∈ L6, Good z k a b v p) ∧ (((a : Int), v) ∈ L6 ↔ a ≠ b) ∧ One X w7 q L6 ∧ Stay X wc w7) := ⟨hgd.1, hgd.2, ho6, HS5.out.trans hs6⟩
          clear hgd hm6 hl6 ho6 hs6 HM0 HM1 HM5 HO5 HS5 HNAT HL0 HP6
          have HSF : Hid (∀ sn : Nat, sn ≤ 1 → (sn = 1 ↔ a ≠ b) → ((sn : Int) == 1) = true) := fun sn h1 h2 => by
            have h3 := h2.2 hab
            subst h3; rfl
          clear hab
          go_upto_region 14 with (fail)
        all_goals
          go_wp2
          go_loopg [12] L6.length (fun g sv wr => ∃ (M : List Wt) (sn : Nat), M.length ≤ g ∧ sv = .int .i64 sn ∧ sn ≤ 1 ∧ Hid ((∀ p ∈ M, Good z k a b v p) ∧ Seen M a b v sn ∧ One X wr q M ∧ Stay X wc wr))
          case atStart => exact ⟨L6, 0, Nat.le_refl _, rfl, by omega, HG.out.1, ⟨fun h => by omega, fun h => absurd (HG.out.2.1.2 h.1) h.2⟩, HG.out.2.2⟩
          case round =>
            obtain ⟨M, sn, hMg, rfl, hsn, HM⟩ := hrel
            have hp := pop_mem HM.out.2.2.1
            by_cases h0 : M.length = 0
            · rw [decide_eq_false (by omega : ¬ 0 < M.length)] at hp
              have HP := Lib.hid hp
              have hsn2 : (sn = 1) ↔ a ≠ b := by
                obtain rfl : M = [] := List.eq_nil_of_length_eq_zero h0
                exact ⟨fun h => (HM.out.2.1.1 h).1, fun h => HM.out.2.1.2 ⟨h, by simp⟩⟩
              have HSN := Lib.hid hsn2
              have HS := Lib.hid HM.out.2.2.2
              clear hp hsn2 HM h0
              generalize wg M 0 = x at HP
              unfold aggW at HP
              go_wp2_with fail
              refine HP.out.mono ?_
              rintro e w8 ⟨rfl, M', _, _, _, hs8⟩
              have HS8 := Lib.hid (HS.out.trans hs8)
              clear hs8
              have qs := HSF.out sn hsn HSN.out
              go_wp2_with fail
              refine (HAW.out _).mono ?_
              rintro e w9 ⟨rfl, hb9⟩
              have HF := Lib.hid (HBELOW.out _ ((HS8.out.trans (Stay.of_below ((Below.refl w8.heap.size w8).alloc (Nat.le_refl _) (.cells #[.int .u64 x.1, .int .i64 x.2] 28)))).trans (Stay.of_below hb9)))
              clear hb9
              go_wp2
              go_ret
              exact ⟨rfl, HF.out⟩
            · rw [decide_eq_true (by omega : 0 < M.length)] at hp
              have hxm : wg M 0 ∈ M := wg_mem (by omega)
              obtain ⟨j, hj, hjb, hx⟩ := HM.out.1 _ hxm
              obtain ⟨u, hu⟩ : ∃ u : Int, (if j = a then v else z j) = u := ⟨_, rfl⟩
              rw [hu] at hx
              rw [hx] at hp hxm
              have HP := Lib.hid hp
              have HU := Lib.hid hu
              have HXM := Lib.hid hxm
              have hg1 : M.length - 1 < gk := by omega
              have qjb : ((j : Int) == (b : Int)) = false := by simp; omega
              have hw3 : IntKind.u64.wrap (a : Int) = (a : Int) := by rw [IntKind.wrap_u64]; omega
              unfold aggW at HP
              clear hp hx hu hxm h0
              go_wp2_with fail
              refine HP.out.mono ?_
              rintro e w8 ⟨rfl, M', hm8, hl8, ho8, hs8⟩
              have hb8 : Below w8.heap.size w8 (w8.alloc (.cells #[.int .u64 (j : Int), .int .i64 u] 28)) := (Below.refl _ _).alloc (Nat.le_refl _) _
              have HST := Lib.hid ((HM.out.2.2.2.trans hs8).trans (Stay.of_below (X := X) hb8))
              have HON := Lib.hid (ho8.later hb8)
              have HM8 := Lib.hid hm8
              have HL8 : Hid (M'.length ≤ M.length - 1) := by show _ ≤ _; omega
              have HGD : Hid (∀ p ∈ M', Good z k a b v p) := fun p hp => HM.out.1 p ((HM8.out p).1 hp).1
              obtain ⟨bb, off, rfl, hbb, hc⟩ := (HI.out.below (HBELOW.out _ (HM.out.2.2.2.trans hs8)) (Nat.le_refl _)) (by omega)
              have c1 := hc j (by omega)
              have hbw : bb < w8.heap.size := Nat.lt_of_lt_of_le hbb (HM.out.2.2.2.trans hs8).size
              clear hm8 hl8 ho8 hs8 hb8 hc HP
              by_cases hja : j = a
              · have hju : u = v := by rw [← HU.out, if_pos hja]
                subst hju
                have hsn0 : sn = 0 := by
                  have h1 := HM.out.2.1
                  have h2 : ((a : Int), u) ∈ M := by have := HXM.out; rwa [hja] at this
                  rcases (show sn = 0 ∨ sn = 1 by omega) with h | h
                  · exact h
                  · exact absurd h2 (h1.1 h).2
                subst hsn0
                have hab1 : a ≠ b := by omega
                have HNX : Hid ((∀ p ∈ M', Good z k a b u p) ∧ Seen M' a b u 1 ∧ One X (w8.alloc (.cells #[.int .u64 (j : Int), .int .i64 u] 28)) q M' ∧ Stay X wc (w8.alloc (.cells #[.int .u64 (j : Int), .int .i64 u] 28))) :=
                  ⟨HGD.out, ⟨fun _ => ⟨hab1, fun h => ((HM8.out _).1 h).2 (by rw [hja])⟩, fun _ => rfl⟩, HON.out, HST.out⟩
                have qja : ((j : Int) == (a : Int)) = true := by simp; omega
                clear hja hab1 hsn HM HON HST
                go_wp2
                go_roundg (M.length - 1)
                case measure => exact hg1
                case rel => exact ⟨M', 1, HL8.out, by go_num, by omega, HNX.out⟩
              · have hju : u = z j := by rw [← HU.out, if_neg hja]
                subst hju
                have HNX : Hid ((∀ p ∈ M', Good z k a b v p) ∧ Seen M' a b v sn ∧ One X (w8.alloc (.cells #[.int .u64 (j : Int), .int .i64 (z j)] 28)) q M' ∧ Stay X wc (w8.alloc (.cells #[.int .u64 (j : Int), .int .i64 (z j)] 28))) := by
                  refine ⟨HGD.out, ?_, HON.out, HST.out⟩
                  have h1 := HM.out.2.1
                  have h2 : ((a : Int), v) ∈ M' ↔ ((a : Int), v) ∈ M := by
                    rw [HM8.out]
                    exact ⟨fun h => h.1, fun h => ⟨h, fun e => hja (by have := congrArg Prod.fst e; simp at this; omega)⟩⟩
                  unfold Seen at h1 ⊢
                  rw [h2]
                  exact h1
                have qja : ((j : Int) == (a : Int)) = false := by simp; omega
                clear hja HM HON HST
                go_wp2
                go_roundg (M.length - 1)
                case measure => exact hg1
                case rel => exact ⟨M', sn, HL8.out, by go_num, hsn, HNX.out⟩

theorem walk {w : World} (a0 : Option Addr) (n0 c0 : Nat) (z0 : Nat → Int) (h0 : IntsAtK .i64 w w.heap.size a0 n0 z0) (b0 : ∀ i, i < n0 → (Lit.int .i64 (z0 i)).wf = true) (s0 : n0 * 8 ≤ 140737488351232)
    (a1 : Int) (_w1 : (Lit.int .i64 a1).wf = true) (a2 : Int) (w2 : (Lit.int .i64 a2).wf = true) (a3 : Int) (_w3 : (Lit.int .i64 a3).wf = true) :
    Calls Try.prog 4 #[.slice a0 n0 c0, .int .i64 a1, .int .i64 a2, .int .i64 a3] w fun e w' => e = .returned (.bool true) ∧ Below w.heap.size w w' :=
  core w a0 n0 c0 z0 h0 b0 (by omega) a1 a2 a3 w2
end Go.Proofs.Ytbmhnadnomngnaa.queueChanged
