/- The walk of the law PackOnce. -/
import Derived.Test.YtkjfdaleamonaaaGreatPackAM
import Derived.Test.YtkjfdaleamonaaaGreatPackAN
namespace Go.Proofs.YtkjfdaleamonaaaGreat.packOnce
open Go.RowKit Go.Lib Go.Sort Wd

set_option maxRecDepth 100000 in
set_option maxHeartbeats 8000000 in
theorem walk {w : World} (a0 : Option Addr) (n0 c0 : Nat) (z0 : Nat → Int) (h0 : IntsAtK .i64 w w.heap.size a0 n0 z0) (_b0 : ∀ i, i < n0 → (Lit.int .i64 (z0 i)).wf = true) (s0 : n0 * 8 ≤ 140737488351232)
    (a1 : Int) (_w1 : (Lit.int .i64 a1).wf = true) (a2 : Int) (_w2 : (Lit.int .i64 a2).wf = true) :
    Calls Tryz.prog 8 #[.slice a0 n0 c0, .int .i64 a1, .int .i64 a2] w fun e w' => e = .returned (.bool true) ∧ Below w.heap.size w w' := by
  obtain ⟨i0, hi, hz0, hz1, hz2⟩ := info_parts info_u
  have HAW := Lib.hid awake8_any
  by_cases hbig : 20 < n0
  · have q1 : decide (20 < (n0 : Int)) = true := decide_eq_true (by omega)
    have q1n : decide (20 < n0) = true := decide_eq_true hbig
    go_enter Tryz.func8, Tryz.ntmps8
    go_wp2_with fail
    refine (HAW.out _).mono ?_
    rintro e w1 ⟨rfl, hb1⟩
    go_wp2
    go_ret
    exact ⟨rfl, hb1⟩
  · have q1 : decide (20 < (n0 : Int)) = false := decide_eq_false (by omega)
    have q1n : decide (20 < n0) = false := decide_eq_false hbig
    have HWD := Lib.hid (words8_any a0 n0 c0 z0 a1 w w.heap.size h0 (Nat.le_refl _) (by omega))
    obtain ⟨R, hR⟩ : ∃ R, (a1 % 13).toNat = R := ⟨_, rfl⟩
    have hR12 : R ≤ 12 := by omega
    rw [hR] at HWD
    obtain ⟨t, et, ht⟩ : ∃ e : Nat, bits BinOp.and IntKind.i64 a2 65535 = (e : Int) ∧ e ≤ 65535 := ⟨(a2 % 65536).toNat, by rw [i64_and_mask a2 16 (by omega) 65535 rfl]; omega, by omega⟩
    clear hR h0
    go_enter Tryz.func8, Tryz.ntmps8
    go_wp2_with fail
    refine HWD.out.mono ?_
    rintro e w1 ⟨L, m, ao, c, rfl, hLm, hm, hLs, hLo, hb1⟩
    obtain ⟨g1, g2⟩ := cmp_pack hLs (by omega)
    have HCP : Hid (∀ wx, WordsAt wx wx.heap.size ao L → Calls Tryz.prog 26 #[.slice ao m c] wx (ToldP wx (packF R L) 0)) := fun wx h => by
      have := compact_any ao c L wx wx.heap.size h (Nat.le_refl _) (by omega) (sized_64 hLs)
      rwa [hLm, g1, g2] at this
    have HEQ : Hid (∀ (M : List Int) (x : Nat) mo mc wx, M.length = x → x ≤ 20000 → (∀ v, v ∈ M ↔ v ∈ L) → WordsAt wx wx.heap.size mo M → Calls Tryz.prog 26 #[.slice mo x mc] wx (ToldP wx (packF R L) 0)) := fun M x mo mc wx hx hx2 hM h => by
      have hMs : Sized R M := fun v hv => hLs v ((hM v).1 hv)
      obtain ⟨g1, g2⟩ := cmp_pack hMs (by omega)
      have := compact_any mo mc M wx wx.heap.size h (Nat.le_refl _) (by omega) (sized_64 hMs)
      rwa [hx, g1, g2, pk_mem_eq hM] at this
    have HTE : Hid (L.take m = L) := List.take_of_length_le (by omega)
    have HTK : Hid (∀ k, k < m → L.take (k + 1) = L.take k ++ [L.getD k 0]) := fun k hk => take_w L (by omega)
    have HGM : Hid (∀ k, k < m → L.getD k 0 ∈ L) := fun k hk => getD_mem (j := k) (by omega)
    have HPN : (packF R L).length ≤ 1000000 := by have := pk_len hLs hR12 (by omega); omega
    generalize packF R L = P at *
    have HLO := Lib.hid hLo
    have HLL := Lib.hid hLm
    have HB1 := Lib.hid hb1
    have hs1 := hb1.size
    clear hLo hLm hb1 g1 g2 hLs HWD
    go_wp2
    go_loopw [8, 9] (fun mv i wr => ∃ (k x : Nat) (M : List Int) (mo : Option Addr) (mc : Nat), k ≤ m ∧ x ≤ 2 * k ∧ i = .int .i64 k ∧ mv = .slice mo x mc ∧ Hid (M.length = x ∧ (∀ v ∈ M, v ∈ L) ∧ wr.ownsRow w1.heap.size 25 1 (.slice mo x mc) x (uV M)) ∧ Hid (Below w1.heap.size w1 wr)) (fun _ i _ => m - (intOf i).toNat)
    case atStart => exact ⟨0, 0, [], none, 0, by omega, by omega, rfl, rfl, ⟨rfl, fun v hv => by simp at hv, World.ownsRow_nil _ _ _ _⟩, Below.refl _ _⟩
    case round =>
      obtain ⟨k, x, M, mo, mc, hk, hx, rfl, rfl, HM, HI⟩ := hrel
      obtain ⟨wo, rfl⟩ : ∃ wo, wo = wr := ⟨_, rfl⟩
      have hsz := HI.out.size
      by_cases h1 : k < m
      · have q2 : decide ((k : Int) < (m : Int)) = true := decide_eq_true (by omega)
        have HL := Lib.hid (own_later HLO.out HI.out)
        obtain ⟨b, off, hao, hb, hc⟩ := words_own HLL.out.symm HL.out (by rw [HLL.out]; omega)
        obtain ⟨p, hp, hpm⟩ : ∃ p : Nat, ((k : Int) + (t : Int)).tmod (m : Int) = (p : Int) ∧ p < m := ⟨(k + t) % m, by rw [Int.tmod_eq_emod_of_nonneg (by omega), Int.natCast_emod, Int.natCast_add], Nat.mod_lt _ (by omega)⟩
        have c1 := hc p (by rw [HLL.out]; exact hpm)
        have hq : ∃ q : Nat, (m : Int) - 1 - (k : Int) = (q : Int) ∧ q < m := ⟨m - 1 - k, by omega, by omega⟩
        obtain ⟨q, hq, hqm⟩ := hq
        have c2 := hc q (by rw [HLL.out]; exact hqm)
        have hm1 := HGM.out p hpm
        have hm2 := HGM.out q hqm
        generalize L.getD p 0 = v at *
        generalize L.getD q 0 = u at *
        have HMV := Lib.hid hm1
        have HMU := Lib.hid hm2
        have hbw : b < w1.heap.size := by
          obtain ⟨b', o', e', hb', -⟩ := words_own HLL.out.symm HLO.out (by rw [HLL.out]; omega)
          rw [e'] at hao
          cases hao
          exact hb'
        subst hao
        have hown := HM.out.2.2
        have HBA := Lib.hid (HI.out.alloc hsz (.cells #[.int .u64 v] 25))
        have hbs : w1.heap.size ≤ (wo.alloc (.cells #[.int .u64 v] 25)).heap.size := HBA.out.size
        have hm0 : ¬ (m : Int) = 0 := by omega
        have hm0n : ¬ m = 0 := by omega
        have hpl : (p : Int) < (m : Int) := by omega
        have hqi : (q : Int) < (m : Int) := by omega
        clear hc hm1 hm2
        go_upto_region 9 with (at_builtin; refine wpList_append_own_at _ rfl (.tmp 28) (.tmp 39) 22 rfl w1.heap.size 25 i0 (.int .u64 0) 1 8 Tryz.underlying22 hi hz0 hz1 hz2 rfl (by decide) _ x (uV M) rfl (hown.alloc _) ⟨wo.heap.size, 0, none⟩ 1 1 [.int .u64 v] rfl rfl (cells_new _ _ _ _ rfl) (by simp [Value.oneCell']) (by unfold maxLen; omega) (by omega) hbs ?_; intro v3 w3 hown1 hgrow _ _)
        obtain ⟨mo3, mc3, rfl, -⟩ := own_form hown1
        have HO3 : Hid ((M ++ [v]).length = x + 1 ∧ (∀ s ∈ M ++ [v], s ∈ L) ∧ w3.ownsRow w1.heap.size 25 1 (.slice mo3 (x + 1) mc3) (x + 1) (uV (M ++ [v]))) := ⟨by rw [List.length_append, HM.out.1]; rfl, fun s hs => (List.mem_append.1 hs).elim (HM.out.2.1 s) (fun h => by rw [List.mem_singleton.1 h]; exact HMV.out), by rw [uV_snoc]; exact hown1⟩
        have hb3 := below_append HBA.out (hown.alloc (.cells #[.int .u64 v] 25)) hbs hgrow
        have HB3 := Lib.hid hb3
        have c3 : w3.cell? ⟨b, off + q, none⟩ = some (.int .u64 u) := by
          have e1 := (hb3.cell (p := ⟨b, off + q, none⟩) hbw)
          have e2 := (HI.out.cell (p := ⟨b, off + q, none⟩) hbw)
          rw [e1, ← e2]; exact c2
        have hb3s : b < w3.heap.size := Nat.lt_of_lt_of_le hbw hb3.size
        have hs3 := hb3.size
        clear hown1 hgrow hown hbs HBA hb3 HM HI HL c1 c2 hsz hb
        have key : ((k : Int) % 3 == 0) = true ∨ ((k : Int) % 3 == 0) = false := by cases ((k : Int) % 3 == 0) <;> simp
        rcases key with p1 | p1
        · have hown := HO3.out.2.2
          have HBA := Lib.hid (HB3.out.alloc hs3 (.cells #[.int .u64 u] 25))
          have hbs : w1.heap.size ≤ (w3.alloc (.cells #[.int .u64 u] 25)).heap.size := HBA.out.size
          go_wp2_with (at_builtin; refine wpList_append_own_at _ rfl (.tmp 44) (.tmp 53) 22 rfl w1.heap.size 25 i0 (.int .u64 0) 1 8 Tryz.underlying22 hi hz0 hz1 hz2 rfl (by decide) _ (x + 1) (uV (M ++ [v])) rfl (hown.alloc _) ⟨w3.heap.size, 0, none⟩ 1 1 [.int .u64 u] rfl rfl (cells_new _ _ _ _ rfl) (by simp [Value.oneCell']) (by unfold maxLen; omega) (by omega) hbs ?_; intro v4 w4 hown1 hgrow _ _)
          obtain ⟨mo4, mc4, rfl, -⟩ := own_form hown1
          have HO4 : Hid ((M ++ [v] ++ [u]).length = x + 1 + 1 ∧ (∀ s ∈ M ++ [v] ++ [u], s ∈ L) ∧ w4.ownsRow w1.heap.size 25 1 (.slice mo4 (x + 1 + 1) mc4) (x + 1 + 1) (uV (M ++ [v] ++ [u]))) := ⟨by rw [List.length_append, HO3.out.1]; rfl, fun s hs => (List.mem_append.1 hs).elim (HO3.out.2.1 s) (fun h => by rw [List.mem_singleton.1 h]; exact HMU.out), by rw [uV_snoc]; exact hown1⟩
          have HB4 := Lib.hid (below_append HBA.out (hown.alloc (.cells #[.int .u64 u] 25)) hbs hgrow)
          clear hown1 hgrow hown hbs HBA HO3 HB3 c3
          go_roundw
          case rel => exact ⟨k + 1, x + 1 + 1, M ++ [v] ++ [u], mo4, mc4, by omega, by omega, by go_num, rfl, HO4.out, HB4.out⟩
          case measure => simp [intOf]; omega
        · go_wp2
          go_roundw
          case rel => exact ⟨k + 1, x + 1, M ++ [v], mo3, mc3, by omega, by omega, by go_num, rfl, HO3.out, HB3.out⟩
          case measure => simp [intOf]; omega
      · obtain rfl : k = m := by omega
        have q2 : decide ((k : Int) < (k : Int)) = false := decide_eq_false (by omega)
        go_wp2
        go_loopw [8, 10] (fun mv i wr => ∃ (j x : Nat) (M : List Int) (mo : Option Addr) (mc : Nat), j ≤ k ∧ x ≤ 2 * k + j ∧ i = .int .i64 j ∧ mv = .slice mo x mc ∧ Hid (M.length = x ∧ (∀ v ∈ M, v ∈ L) ∧ (∀ v ∈ L.take j, v ∈ M) ∧ wr.ownsRow w1.heap.size 25 1 (.slice mo x mc) x (uV M)) ∧ Hid (Below w1.heap.size w1 wr)) (fun _ i _ => k - (intOf i).toNat)
        case atStart => exact ⟨0, x, M, mo, mc, by omega, by omega, rfl, rfl, ⟨HM.out.1, HM.out.2.1, fun v hv => by simp at hv, HM.out.2.2⟩, HI.out⟩
        case round =>
          obtain ⟨j, x, M, mo, mc, hj, hx, rfl, rfl, HM, HI⟩ := hrel
          obtain ⟨wz, rfl⟩ : ∃ wz, wz = wr := ⟨_, rfl⟩
          have hsz := HI.out.size
          by_cases h1 : j < k
          · have q3 : decide ((j : Int) < (k : Int)) = true := decide_eq_true (by omega)
            have HL := Lib.hid (own_later HLO.out HI.out)
            obtain ⟨b, off, hao, hb, hc⟩ := words_own HLL.out.symm HL.out (by rw [HLL.out]; omega)
            have c1 := hc j (by rw [HLL.out]; exact h1)
            have htk := HTK.out j h1
            have hm1 := HGM.out j h1
            generalize L.getD j 0 = v at *
            have HMV := Lib.hid hm1
            have HTJ := Lib.hid htk
            subst hao
            have hown := HM.out.2.2.2
            have HBA := Lib.hid (HI.out.alloc hsz (.cells #[.int .u64 v] 25))
            have hbs : w1.heap.size ≤ (wz.alloc (.cells #[.int .u64 v] 25)).heap.size := HBA.out.size
            clear hc hm1 htk
            go_wp2_with (at_builtin; refine wpList_append_own_at _ rfl (.tmp 61) (.tmp 66) 22 rfl w1.heap.size 25 i0 (.int .u64 0) 1 8 Tryz.underlying22 hi hz0 hz1 hz2 rfl (by decide) _ x (uV M) rfl (hown.alloc _) ⟨wz.heap.size, 0, none⟩ 1 1 [.int .u64 v] rfl rfl (cells_new _ _ _ _ rfl) (by simp [Value.oneCell']) (by unfold maxLen; omega) (by omega) hbs ?_; intro v3 w3 hown1 hgrow _ _)
            obtain ⟨mo3, mc3, rfl, -⟩ := own_form hown1
            have HO3 : Hid ((M ++ [v]).length = x + 1 ∧ (∀ s ∈ M ++ [v], s ∈ L) ∧ (∀ s ∈ L.take (j + 1), s ∈ M ++ [v]) ∧ w3.ownsRow w1.heap.size 25 1 (.slice mo3 (x + 1) mc3) (x + 1) (uV (M ++ [v]))) := ⟨by rw [List.length_append, HM.out.1]; rfl, fun s hs => (List.mem_append.1 hs).elim (HM.out.2.1 s) (fun h => by rw [List.mem_singleton.1 h]; exact HMV.out), fun s hs => by rw [HTJ.out] at hs; exact (List.mem_append.1 hs).elim (fun h => List.mem_append.2 (.inl (HM.out.2.2.1 s h))) (fun h => List.mem_append.2 (.inr h)), by rw [uV_snoc]; exact hown1⟩
            have HB3 := Lib.hid (below_append HBA.out (hown.alloc (.cells #[.int .u64 v] 25)) hbs hgrow)
            clear hown1 hgrow hown hbs HBA HM HI HL c1
            go_roundw
            case rel => exact ⟨j + 1, x + 1, M ++ [v], mo3, mc3, by omega, by omega, by go_num, rfl, HO3.out, HB3.out⟩
            case measure => simp [intOf]; omega
          · obtain rfl : j = k := by omega
            have q3 : decide ((j : Int) < (j : Int)) = false := decide_eq_false (by omega)
            have HL := Lib.hid (own_later HLO.out HI.out)
            have HBz := Lib.hid (HB1.out.trans (HI.out.mono hs1))
            have hml := HM.out.2.2.1
            rw [HTE.out] at hml
            have HCA := Lib.hid (HCP.out wz (words_own HLL.out.symm HL.out))
            have HCB := Lib.hid (fun mo mc wx h => HEQ.out M x mo mc wx HM.out.1 (by omega) (fun v => ⟨HM.out.2.1 v, hml v⟩) h)
            have HMO := Lib.hid HM.out.2.2.2
            have HML := Lib.hid HM.out.1
            have HSAME : Hid (∀ ao c bo d wx, WordsAt wx wx.heap.size ao P → WordsAt wx wx.heap.size bo P → P.length ≤ 1000000 → Calls Tryz.prog 24 #[.slice ao P.length c, .slice bo P.length d] wx fun e w' => e = .returned (.bool true) ∧ Below wx.heap.size wx w') := fun ao c bo d wx h1 h2 h3 => by
              have := same_any ao bo c d P P wx _ _ h1 h2 (by omega)
              rwa [decide_eq_true rfl] at this
            clear hml HM HI HL HLO
            go_wp2_with fail
            refine HCA.out.mono ?_
            rintro e w4 ⟨po, pc, rfl, hp4, hb4⟩
            have HB4 := Lib.hid (HBz.out.trans (hb4.mono HBz.out.size))
            have HM4 := Lib.hid (own_later HMO.out hb4)
            have HP4 := Lib.hid (words_own rfl hp4)
            have HC4 := Lib.hid (HCB.out mo mc w4 (words_own HML.out.symm HM4.out))
            clear hp4 hb4 HMO HBz HCA HCB
            go_wp2_with fail
            refine HC4.out.mono ?_
            rintro e w5 ⟨qo, qc, rfl, hq5, hb5⟩
            have HB5 := Lib.hid (HB4.out.trans (hb5.mono HB4.out.size))
            have HP5 := Lib.hid ((HP4.out.below hb5 (Nat.le_refl _)).wider hb5.size)
            have HS5 := Lib.hid (HSAME.out po pc qo qc w5 HP5.out (words_own rfl hq5) HPN)
            clear hq5 hb5 HB4 HP4 HC4 HM4
            go_wp2_with fail
            refine HS5.out.mono ?_
            rintro e w6 ⟨rfl, hb6⟩
            have HB6 := Lib.hid (HB5.out.trans (hb6.mono HB5.out.size))
            clear hb6 HB5 HP5 HS5
            go_wp2_with fail
            refine (HAW.out _).mono ?_
            rintro e w7 ⟨rfl, hb7⟩
            have hb := HB6.out.trans (hb7.mono HB6.out.size)
            clear hb7 HB6
            go_wp2
            go_ret
            exact ⟨rfl, hb⟩
end Go.Proofs.YtkjfdaleamonaaaGreat.packOnce
