/- Joined: NwB, NwC, NwE, NwD, PkE, PlC, PlD: contracts and plain laws, each with its own heading below. -/
import Derived.Test.YtkjfdaleamonaaaGreatPackAK
import Derived.Test.YtkjfdaleamonaaaGreatPackAJ
import Derived.Test.YtkjfdaleamonaaaGreatPackAG
import Derived.OwnWalk
/- Contract of apiaryref1.kids at words of cells above the finest size. -/
namespace Go.Proofs.YtkjfdaleamonaaaGreat
open Go.RowKit Go.Lib Wd

set_option maxRecDepth 100000 in
set_option maxHeartbeats 8000000 in
theorem rkw_in {k : Nat} {z : E2} (hz : okB k z = true) (hk : k + 1 ≤ 12) (w : World) : Calls Tryz.prog 68 #[.int .u64 (wordN k z : Nat)] w fun e w' => ∃ ao c, e = .returned (.slice ao 7 c) ∧ w'.ownsRow w.heap.size 25 1 (.slice ao 7 c) 7 (uV (dsN 1 k z)) ∧ Below w.heap.size w w' := by
  obtain ⟨i0, hi, hz0, hz1, hz2⟩ := info_parts info_u
  obtain ⟨b1, b2, b3⟩ := word_cell hz
  have lW := (wordN_lt hz).1
  have HRC : Hid (∀ w, Calls Tryz.prog 16 #[.int .u64 (wordN k z : Nat)] w fun e w' => e = .returned (.tuple #[.agg #[.int .i64 k, .int .i64 z.1, .int .i64 z.2], .int .i64 0]) ∧ Below w.heap.size w w') := fun w => by
    have h := rcell_any (wordN k z) (by omega) w
    unfold cvR cvZ cvE at h
    rw [if_pos b1, if_pos b1, if_pos b1, b2, b3] at h
    exact h
  have hkk := rkids_any (k : Int) z
  rw [(kd_ok hz hk).1, (kd_ok hz hk).2] at hkk
  obtain ⟨K, hK⟩ : ∃ K, dsN 1 k z = K := ⟨_, rfl⟩
  have hKl : K.length = 7 := by rw [← hK]; exact ds_len _ _ _
  have HWD : Hid (∀ i, i < 7 → ∀ w, Calls Tryz.prog 18 #[vC (cg (kidsL k z) i).1 (cg (kidsL k z) i).2] w fun e w' => e = .returned (.tuple #[.int .u64 (K.getD i 0), .int .i64 0]) ∧ Below w.heap.size w w') := fun i hi w => by
    rw [kidsL_get _ _ hi]
    have h := word_any (((k + 1 : Nat)) : Int) (downE z i) w
    have ho := kid_ok hz hk hi
    rw [(ofW_ok (r := k + 1) ho).1, (ofW_ok (r := k + 1) ho).2.1] at h
    rw [← hK, ← kids_ds hk, kidsW_get hk hi]
    exact h
  have HTK : Hid (∀ i, i < 7 → K.take (i + 1) = K.take i ++ [K.getD i 0]) := fun i hi => take_w K (by omega)
  have HTE : Hid (K.take 7 = K) := List.take_of_length_le (by omega)
  have HCL : Hid ((kidsL k z).length = 7) := rfl
  have HK := Lib.hid hkk
  simp only [vC] at HWD HK
  generalize hcl : kidsL (((k : Nat)) : Int) z = C at *
  generalize wordN k z = W at *
  rw [hK]
  clear hkk hK hKl hcl b1 b2 b3 lW
  go_enter Tryz.func68, Tryz.ntmps68
  go_wp2_with fail
  refine (HRC.out _).mono ?_
  rintro e w0 ⟨rfl, hb0⟩
  have B0 : Hid (Below w.heap.size w (w0.alloc (.cells #[.int .i64 k, .int .i64 z.1, .int .i64 z.2] 32))) := hb0.alloc hb0.size _
  have T0 : Hid (Tri (w0.alloc (.cells #[.int .i64 k, .int .i64 z.1, .int .i64 z.2] 32)) w0.heap.size k z) := heap_new _ _ _ rfl
  clear hb0
  go_upto_region 2 with (fail)
  generalize w0.alloc (.cells #[.int .i64 k, .int .i64 z.1, .int .i64 z.2] 32) = wc at *
  obtain ⟨t0, t1, t2, t3, t4, t5, t6⟩ := T0.out.cells
  go_wp2_with fail
  refine (HK.out _).mono ?_
  rintro e w1 ⟨co, cc, rfl, hca, hb1⟩
  rw [HCL.out]
  have HCA := Lib.hid hca
  have HB1 := Lib.hid (B0.out.trans (hb1.mono B0.out.size))
  clear hca hb1 HK B0 T0 t0 t1 t2 t3 t4 t5 t6
  go_wp2
  go_loopw [7, 8] (fun sl i wr => ∃ (j : Nat) (lo : Option Addr) (lc : Nat), j ≤ 7 ∧ i = .int .i64 j ∧ sl = .slice lo j lc ∧ Hid (wr.ownsRow w1.heap.size 25 1 (.slice lo j lc) j (uV (K.take j)) ∧ Below w1.heap.size w1 wr)) (fun _ i _ => 7 - (intOf i).toNat)
  case atStart => exact ⟨0, none, 0, by omega, rfl, rfl, World.ownsRow_nil _ _ _ _, Below.refl _ _⟩
  case round =>
    obtain ⟨j, lo, lc, hj, rfl, rfl, HI⟩ := hrel
    by_cases hlt : j < 7
    · obtain ⟨g, off, rfl, hg, hc⟩ := (HCA.out.below HI.out.2) (by rw [HCL.out]; omega)
      obtain ⟨c0, c1, c2⟩ := hc j (by rw [HCL.out]; exact hlt)
      have hwd := HWD.out j hlt
      have htk := HTK.out j hlt
      generalize cg C j = y at *
      generalize K.getD j 0 = x at *
      have HWK := Lib.hid hwd
      have HTK2 := Lib.hid htk
      clear hc hwd htk
      go_wp2_with fail
      refine (HWK.out _).mono ?_
      rintro e w2 ⟨rfl, hb2⟩
      have hs1 := HI.out.2.size
      have HB2 := Lib.hid (HI.out.2.trans (hb2.mono hs1))
      have hown := own_later HI.out.1 hb2
      have HBA := Lib.hid (HB2.out.alloc HB2.out.size (.cells #[.int .u64 x] 25))
      have hbs : w1.heap.size ≤ (w2.alloc (.cells #[.int .u64 x] 25)).heap.size := HBA.out.size
      clear hb2 HI c0 c1 c2 HWK
      go_wp2_with (at_builtin; refine wpList_append_own_at _ rfl (.tmp 39) (.tmp 41) 22 rfl w1.heap.size 25 i0 (.int .u64 0) 1 8 Tryz.underlying22 hi hz0 hz1 hz2 rfl (by decide) _ j (uV (K.take j)) rfl (hown.alloc _) ⟨w2.heap.size, 0, none⟩ 1 1 [.int .u64 x] rfl rfl (cells_new _ _ _ _ rfl) (by simp [Value.oneCell']) (by unfold maxLen; omega) (by omega) hbs ?_; intro v3 w3 hown1 hgrow _ _)
      obtain ⟨lo', lc', rfl, -⟩ := own_form hown1
      have HO3 : Hid (w3.ownsRow w1.heap.size 25 1 (.slice lo' (j + 1) lc') (j + 1) (uV (K.take (j + 1)))) := by rw [HTK2.out, uV_snoc]; exact hown1
      have HB3 := Lib.hid (below_append HBA.out (hown.alloc (.cells #[.int .u64 x] 25)) hbs hgrow)
      clear hown hown1 hgrow hbs HBA HB2
      go_roundw
      case rel => exact ⟨j + 1, lo', lc', by omega, by go_num, rfl, HO3.out, HB3.out⟩
      case measure => simp [intOf]; omega
    · obtain rfl : j = 7 := by omega
      have ho := HI.out.1
      rw [HTE.out] at ho
      have hbb := HB1.out.trans (HI.out.2.mono HB1.out.size)
      have HF : Hid (∃ ao c, Ending.returned (.slice lo 7 lc) = .returned (.slice ao 7 c) ∧ wr.ownsRow w.heap.size 25 1 (.slice ao 7 c) 7 (uV K) ∧ Below w.heap.size w wr) := ⟨lo, lc, rfl, own_base ho HB1.out.size, hbb⟩
      clear ho hbb HI HB1
      go_wp2
      go_ret
      exact HF.out
end Go.Proofs.YtkjfdaleamonaaaGreat
/- Contract of apiaryref1.Size. -/
namespace Go.Proofs.YtkjfdaleamonaaaGreat
open Go.RowKit Go.Lib Wd

theorem rW_lt (u : Nat) : rW u < 16 := Nat.mod_lt _ (by decide)
/-- What Size tells, by cases. -/
theorem sz_bad {l : List Int} {r : Int} {k : Nat} (hk : k < l.length) (h : isW (l.getD k 0).toNat = false) : szE l r = 5 ∧ szN l r = 0 := by
  have e : szE l r = 5 := by
    unfold szE
    rw [if_pos]
    unfold allW
    rw [List.all_eq_false]
    exact ⟨_, getD_mem hk, by rw [h]; decide⟩
  exact ⟨e, by unfold szN; rw [e]; rfl⟩
theorem sz_all {l : List Int} (h : ∀ k, k < l.length → isW (l.getD k 0).toNat = true) : allW l = true := by
  unfold allW
  rw [List.all_eq_true]
  intro v hv
  obtain ⟨k, hk, rfl⟩ := List.getElem_of_mem hv
  have := h k hk
  rwa [List.getD_eq_getElem?_getD, List.getElem?_eq_getElem hk, Option.getD_some] at this
theorem sz_big {l : List Int} {r : Int} (ha : allW l = true) {k : Nat} (hk : k < l.length) (h : r < (rW (l.getD k 0).toNat : Int)) : szE l r = 8 ∧ szN l r = 0 := by
  have e : szE l r = 8 := by
    unfold szE
    rw [if_neg (by rw [ha]; decide), if_pos]
    rw [List.any_eq_true]
    exact ⟨_, getD_mem hk, decide_eq_true h⟩
  exact ⟨e, by unfold szN; rw [e]; rfl⟩
theorem sz_small {l : List Int} {r : Int} (h : ∀ k, k < l.length → (rW (l.getD k 0).toNat : Int) ≤ r) : l.any (fun v => decide (r < (rW v.toNat : Int))) = false := by
  rw [List.any_eq_false]
  intro v hv
  obtain ⟨k, hk, rfl⟩ := List.getElem_of_mem hv
  have := h k hk
  rw [List.getD_eq_getElem?_getD, List.getElem?_eq_getElem hk, Option.getD_some] at this
  rw [decide_eq_true_eq]
  omega
theorem sz_arg {l : List Int} {r : Int} (ha : allW l = true) (hs : l.any (fun v => decide (r < (rW v.toNat : Int))) = false) (h : r < 0 ∨ 12 < r) : szE l r = 1 ∧ szN l r = 0 := by
  have e : szE l r = 1 := by
    unfold szE
    rw [if_neg (by rw [ha]; decide), if_neg (by rw [hs]; decide), if_pos h]
  exact ⟨e, by unfold szN; rw [e]; rfl⟩
theorem sz_many {l : List Int} {R : Nat} (ha : allW l = true) (hs : l.any (fun v => decide ((R : Int) < (rW v.toNat : Int))) = false) (hR : R ≤ 12) {k : Nat} (h : 1099511627776 < sumS R (l.take k)) : szE l R = 7 ∧ szN l R = 0 := by
  have e : szE l R = 7 := by
    unfold szE
    rw [if_neg (by rw [ha]; decide), if_neg (by rw [hs]; decide), if_neg (by omega), Int.toNat_natCast, if_pos (Nat.lt_of_lt_of_le h (sumS_le R k))]
  exact ⟨e, by unfold szN; rw [e]; rfl⟩
theorem sz_ok {l : List Int} {R : Nat} (ha : allW l = true) (hs : l.any (fun v => decide ((R : Int) < (rW v.toNat : Int))) = false) (hR : R ≤ 12) (h : sumS R l ≤ 1099511627776) : szE l R = 0 ∧ szN l R = (sumS R l : Int) := by
  have e : szE l R = 0 := by
    unfold szE
    rw [if_neg (by rw [ha]; decide), if_neg (by rw [hs]; decide), if_neg (by omega), Int.toNat_natCast, if_neg (by omega)]
  exact ⟨e, by unfold szN; rw [e, if_pos rfl, Int.toNat_natCast]⟩
set_option maxRecDepth 100000 in
set_option maxHeartbeats 8000000 in
theorem rsize_any (ao : Option Addr) (c : Nat) (l : List Int) (r : Int) (w : World) (B : Nat) (h : WordsAt w B ao l) (hB : B ≤ w.heap.size) (hn : l.length ≤ 1000000) (h64 : In64 l) :
    Calls Tryz.prog 36 #[.slice ao l.length c, .int .i64 r] w fun e w' => e = .returned (.tuple #[.int .i64 (szN l r), .int .i64 (szE l r)]) ∧ Below w.heap.size w w' := by
  obtain ⟨n, hnn⟩ : ∃ n, l.length = n := ⟨_, rfl⟩
  have HN := Lib.hid hnn
  have HW := Lib.hid h
  have HV : Hid (∀ k, k < n → ∃ u : Nat, l.getD k 0 = u ∧ u < 18446744073709551616) := fun k hk => by
    have := h64 _ (getD_mem (j := k) (l := l) (by omega))
    exact ⟨(l.getD k 0).toNat, by omega, by omega⟩
  have HISW : Hid (∀ u : Nat, u < 18446744073709551616 → ∀ w, _) := isw_any
  have HX1 := Lib.hid (fun k (hk : k < n) hw => sz_bad (l := l) (r := r) (k := k) (by rw [HN.out]; exact hk) hw)
  have HX2 : Hid ((∀ k, k < n → isW (l.getD k 0).toNat = true) → allW l = true) := fun hh => sz_all (by rw [HN.out]; exact hh)
  have HX3 := Lib.hid (fun ha k (hk : k < n) hw => sz_big (l := l) (r := r) ha (k := k) (by rw [HN.out]; exact hk) hw)
  have HX4 : Hid ((∀ k, k < n → (rW (l.getD k 0).toNat : Int) ≤ r) → l.any (fun v => decide (r < (rW v.toNat : Int))) = false) := fun hh => sz_small (by rw [HN.out]; exact hh)
  have HX5 := Lib.hid (fun ha hs hr => sz_arg (l := l) (r := r) ha hs hr)
  have HX6 : Hid (∀ R : Nat, r = R → allW l = true → l.any (fun v => decide (r < (rW v.toNat : Int))) = false → R ≤ 12 → ∀ k, 1099511627776 < sumS R (l.take k) → szE l r = 7 ∧ szN l r = 0) := fun R e ha hs hR k hk => by subst e; exact sz_many ha hs hR hk
  have HX7 : Hid (∀ R : Nat, r = R → allW l = true → l.any (fun v => decide (r < (rW v.toNat : Int))) = false → R ≤ 12 → sumS R l ≤ 1099511627776 → szE l r = 0 ∧ szN l r = (sumS R l : Int)) := fun R e ha hs hR hk => by subst e; exact sz_ok ha hs hR hk
  have HSN : Hid (∀ R k, k < n → sumS R (l.take (k + 1)) = sumS R (l.take k) + 7 ^ (R - rW (l.getD k 0).toNat)) := fun R k hk => sumS_snoc R l (by rw [HN.out]; exact hk)
  have HEND : Hid (l.take n = l) := List.take_of_length_le (by rw [hnn]; exact Nat.le_refl _)
  rw [hnn] at hn ⊢
  generalize szE l r = E at *
  generalize szN l r = N at *
  clear hnn h h64
  go_enter Tryz.func36, Tryz.ntmps36
  go_wp2
  go_loopw [6] (fun i wr => ∃ (k : Nat), k ≤ n ∧ i = .int .i64 k ∧ Hid (∀ j, j < k → isW (l.getD j 0).toNat = true) ∧ Hid (Below w.heap.size w wr)) (fun i _ => n - (intOf i).toNat)
  case atStart => exact ⟨0, by omega, rfl, fun j hj => by omega, Below.refl _ _⟩
  case round =>
    obtain ⟨k, hk, rfl, HA, HI⟩ := hrel
    have hsz := HI.out.size
    by_cases hlt : k < n
    · obtain ⟨g, off, rfl, hg, hc⟩ := (HW.out.below HI.out hB) (by rw [HN.out]; omega)
      have c0 := hc k (by rw [HN.out]; exact hlt)
      obtain ⟨u, hu, hu2⟩ := HV.out k hlt
      have hx1 := HX1.out k hlt
      have ha2 : isW (l.getD k 0).toNat = true → ∀ j, j < k + 1 → isW (l.getD j 0).toNat = true := fun hk2 j hj => by
        by_cases e : j = k
        · rw [e]; exact hk2
        · exact HA.out j (by omega)
      rw [hu, Int.toNat_natCast] at hx1 ha2
      rw [hu] at c0
      have HIW := Lib.hid (HISW.out u hu2)
      have hgw : g < wr.heap.size := by omega
      have q1 : decide ((k : Int) < (n : Int)) = true := decide_eq_true (by omega)
      cases hiw : isW u with
      | false =>
        obtain ⟨e1, e2⟩ := hx1 hiw
        have HIW2 : Hid (∀ w, Calls Tryz.prog 22 #[.int .u64 u] w fun e w' => e = .returned (.bool false) ∧ Below w.heap.size w w') := fun w => by have := HIW.out w; rwa [hiw] at this
        have HE := Lib.hid (And.intro e1 e2)
        clear hc hx1 ha2 e1 e2 hiw HIW hu
        go_wp2_with fail
        refine (HIW2.out _).mono ?_
        rintro e w2 ⟨rfl, hb2⟩
        have HB2 := Lib.hid (HI.out.trans (hb2.mono hsz))
        clear hb2
        go_wp2
        go_ret2
        exact ⟨by rw [HE.out.1, HE.out.2]; rfl, HB2.out⟩
      | true =>
        have HA2 := Lib.hid (ha2 hiw)
        have HIW2 : Hid (∀ w, Calls Tryz.prog 22 #[.int .u64 u] w fun e w' => e = .returned (.bool true) ∧ Below w.heap.size w w') := fun w => by have := HIW.out w; rwa [hiw] at this
        clear hc hx1 ha2 hiw HIW hu
        go_wp2_with fail
        refine (HIW2.out _).mono ?_
        rintro e w2 ⟨rfl, hb2⟩
        have HB2 := Lib.hid (HI.out.trans (hb2.mono hsz))
        clear hb2 c0
        go_wp2
        go_roundw
        case rel => exact ⟨k + 1, by omega, by go_num, HA2.out, HB2.out⟩
        case measure => simp [intOf]; omega
    · obtain rfl : k = n := by omega
      have HAL := Lib.hid (HX2.out HA.out)
      have q1 : decide ((k : Int) < (k : Int)) = false := decide_eq_false (by omega)
      obtain ⟨w0, rfl⟩ : ∃ w0, w0 = wr := ⟨_, rfl⟩
      clear HX1 HX2 HISW HA
      go_wp2
      go_loopw [7] (fun i wr => ∃ (j : Nat), j ≤ k ∧ i = .int .i64 j ∧ Hid (∀ m, m < j → (rW (l.getD m 0).toNat : Int) ≤ r) ∧ Hid (Below w.heap.size w wr)) (fun i _ => k - (intOf i).toNat)
      case atStart => exact ⟨0, by omega, rfl, fun j hj => by omega, HI.out⟩
      case round =>
        obtain ⟨j, hj, rfl, HA, HI⟩ := hrel
        have hsz := HI.out.size
        by_cases hlt : j < k
        · obtain ⟨g, off, rfl, hg, hc⟩ := (HW.out.below HI.out hB) (by rw [HN.out]; omega)
          have c0 := hc j (by rw [HN.out]; exact hlt)
          obtain ⟨u, hu, hu2⟩ := HV.out j hlt
          have hx3 := HX3.out HAL.out j hlt
          have ha2 : (rW (l.getD j 0).toNat : Int) ≤ r → ∀ m, m < j + 1 → (rW (l.getD m 0).toNat : Int) ≤ r := fun hk2 m hm => by
            by_cases e : m = j
            · rw [e]; exact hk2
            · exact HA.out m (by omega)
          rw [hu, Int.toNat_natCast] at hx3 ha2
          rw [hu] at c0
          obtain ⟨v1, -, -⟩ := head_val u hu2
          have hr16 := rW_lt u
          generalize rW u = R at *
          have hgw : g < wr.heap.size := by omega
          have q1 : decide ((j : Int) < (k : Int)) = true := decide_eq_true (by omega)
          by_cases hbig : r < (R : Int)
          · obtain ⟨e1, e2⟩ := hx3 hbig
            have HE := Lib.hid (And.intro e1 e2)
            have q2 : decide (r < (R : Int)) = true := decide_eq_true hbig
            clear hc hx3 ha2 e1 e2 hu hbig
            go_wp2
            go_ret2
            exact ⟨by rw [HE.out.1, HE.out.2]; rfl, HI.out⟩
          · have HA2 := Lib.hid (ha2 (by omega))
            have q2 : decide (r < (R : Int)) = false := decide_eq_false hbig
            clear hc hx3 ha2 hu hbig
            go_wp2
            go_roundw
            case rel => exact ⟨j + 1, by omega, by go_num, HA2.out, HI.out⟩
            case measure => simp [intOf]; omega
        · obtain rfl : j = k := by omega
          have HSM := Lib.hid (HX4.out HA.out)
          have HLE := HA
          have q1 : decide ((j : Int) < (j : Int)) = false := decide_eq_false (by omega)
          obtain ⟨w1, rfl⟩ : ∃ w1, w1 = wr := ⟨_, rfl⟩
          clear HX3 HX4 HA
          by_cases hr : r < 0 ∨ 12 < r
          · have HE := Lib.hid (HX5.out HAL.out HSM.out hr)
            have hr' : (decide (r < 0) = true) ∨ (decide (r < 0) = false ∧ decide (12 < r) = true) := by
              by_cases h : r < 0
              · exact .inl (decide_eq_true h)
              · exact .inr ⟨decide_eq_false h, decide_eq_true (by omega)⟩
            clear hr
            rcases hr' with q1 | ⟨q1, q2⟩
            all_goals
              go_wp2
              go_ret2
              exact ⟨by rw [HE.out.1, HE.out.2]; rfl, HI.out⟩
          · obtain ⟨R, rfl⟩ : ∃ R : Nat, r = R := ⟨r.toNat, by omega⟩
            have hR : R ≤ 12 := by omega
            have p1 : decide ((R : Int) < 0) = false := decide_eq_false (by omega)
            have p2 : decide (12 < (R : Int)) = false := decide_eq_false (by omega)
            have p3 : decide (12 < R) = false := decide_eq_false (by omega)
            have HX6' := Lib.hid (HX6.out R rfl HAL.out HSM.out hR)
            have HX7' := Lib.hid (HX7.out R rfl HAL.out HSM.out hR)
            have HSV : Hid (∀ d, d ≤ 12 → ∀ w, Calls Tryz.prog 31 #[.int .i64 ((d : Nat) : Int)] w fun e w' => e = .returned (.int .i64 ((7 ^ d : Nat) : Int)) ∧ Below w.heap.size w w') := fun d hd w => by
              have := rseven_in d hd w
              rwa [show ((7 : Int) ^ d) = ((7 ^ d : Nat) : Int) by rw [Int.natCast_pow]; rfl] at this
            clear HX5 HX6 HX7 hr HAL HSM
            go_wp2
            go_loopw [8, 9] (fun sv i wr => ∃ (k S : Nat), k ≤ j ∧ i = .int .i64 k ∧ sv = .int .i64 S ∧ S ≤ 1099511627776 ∧ Hid (S = sumS R (l.take k)) ∧ Hid (Below w.heap.size w wr)) (fun _ i _ => j - (intOf i).toNat)
            case atStart => exact ⟨0, 0, by omega, rfl, rfl, by omega, rfl, HI.out⟩
            case round =>
              obtain ⟨k, S, hk, rfl, rfl, hS, HS, HI⟩ := hrel
              have hsz := HI.out.size
              by_cases hlt : k < j
              · obtain ⟨g, off, rfl, hg, hc⟩ := (HW.out.below HI.out hB) (by rw [HN.out]; omega)
                have c0 := hc k (by rw [HN.out]; exact hlt)
                obtain ⟨u, hu, hu2⟩ := HV.out k hlt
                have hsn := HSN.out R k hlt
                have hle := HLE.out k hlt
                rw [← HS.out, hu, Int.toNat_natCast] at hsn
                rw [hu, Int.toNat_natCast] at hle
                rw [hu] at c0
                obtain ⟨v1, -, -⟩ := head_val u hu2
                generalize rW u = q at *
                obtain ⟨d, hd⟩ : ∃ d, R - q = d := ⟨_, rfl⟩
                have hd2 : (R : Int) - (q : Int) = (d : Int) := by omega
                have HSW := Lib.hid (HSV.out d (by omega))
                have hp := seven_le (k := d) (by omega)
                rw [hd] at hsn
                generalize 7 ^ d = P at *
                have hx6 := HX6'.out (k + 1)
                rw [hsn] at hx6
                have HSN2 := Lib.hid hsn
                have hgw : g < wr.heap.size := by omega
                have hq15 : q ≤ 15 := by omega
                have q1 : decide ((k : Int) < (j : Int)) = true := decide_eq_true (by omega)
                have hsum : (S : Int) + (P : Int) = ((S + P : Nat) : Int) := by omega
                obtain ⟨S2, hS2⟩ : ∃ S2, S + P = S2 := ⟨_, rfl⟩
                rw [hS2] at hsum hx6
                have HSN3 : Hid (S2 = sumS R (l.take (k + 1))) := by show _ = _; rw [HSN2.out, hS2]
                have hS2b : S2 ≤ 2199023255552 := by omega
                clear hc hu hsn HSN2 hle hd hS2
                go_wp2_with fail
                refine (HSW.out _).mono ?_
                rintro e w2 ⟨rfl, hb2⟩
                have HB2 := Lib.hid (HI.out.trans (hb2.mono hsz))
                clear hb2 c0
                by_cases hbig : 1099511627776 < S2
                · have HE := Lib.hid (hx6 hbig)
                  have q2 : decide (1099511627776 < (S2 : Int)) = true := decide_eq_true (by omega)
                  clear hx6 hbig
                  go_wp2
                  go_ret2
                  exact ⟨by rw [HE.out.1, HE.out.2]; rfl, HB2.out⟩
                · have q2 : decide (1099511627776 < (S2 : Int)) = false := decide_eq_false (by omega)
                  clear hx6
                  go_wp2
                  go_roundw
                  case rel => exact ⟨k + 1, S2, by omega, by go_num, rfl, by omega, HSN3.out, HB2.out⟩
                  case measure => simp [intOf]; omega
              · obtain rfl : k = j := by omega
                have q1 : decide ((k : Int) < (k : Int)) = false := decide_eq_false (by omega)
                have hs := HS.out
                rw [HEND.out] at hs
                have he := HX7'.out (by rw [← hs]; exact hS)
                rw [← hs] at he
                have HE := Lib.hid he
                clear hs he
                go_wp2
                go_ret2
                exact ⟨by rw [HE.out.1, HE.out.2]; rfl, HI.out⟩
end Go.Proofs.YtkjfdaleamonaaaGreat
/- apiaryref1.Set once more: what comes out is a row of the call's own. -/
namespace Go.Proofs.YtkjfdaleamonaaaGreat
open Go.RowKit Go.Lib Go.Sort

def JoinedO (w : World) (l : List Int) (e : Ending) (w' : World) : Prop :=
  ∃ ao c, e = .returned (.slice ao l.length c) ∧ w'.ownsRow w.heap.size 25 1 (.slice ao l.length c) l.length (uV l) ∧ Below w.heap.size w w'
set_option maxRecDepth 100000 in
set_option maxHeartbeats 4000000 in
theorem rset_own (ao : Option Addr) (c : Nat) (l : List Int) (w : World) (h : WordsAt w w.heap.size ao l) (hn : l.length ≤ 1000000000) :
    Calls Tryz.prog 21 #[.slice ao l.length c] w (JoinedO w (setF l)) := by
  obtain ⟨i0, hi, hz0, hz1, hz2⟩ := info_parts info_u
  have hsz1 : (Tryz.prog.info? 25).map (·.size) = some 1 := by kernel_rfl
  obtain ⟨n, hnn⟩ : ∃ n, l.length = n := ⟨_, rfl⟩
  have HN := Lib.hid hnn
  have HW := Lib.hid h
  rw [hnn] at hn ⊢
  clear hnn h
  go_enter Tryz.func21, Tryz.ntmps21
  go_wp2
  go_loopw [3, 4] (fun v i wr => ∃ (k m : Nat), k ≤ n ∧ m ≤ k ∧ i = .int .i64 k ∧ Hid ((setF (l.take k)).length = m) ∧ wr.ownsRow w.heap.size 25 1 v m (uV (setF (l.take k))) ∧ Below w.heap.size w wr) (fun _ i _ => n - (intOf i).toNat)
  case atStart => exact ⟨0, 0, Nat.zero_le _, Nat.le_refl _, rfl, by show _ = _; rw [List.take_zero, setF_nil]; rfl, by rw [List.take_zero, setF_nil]; exact World.ownsRow_nil _ _ _ _, Below.refl _ _⟩
  case round =>
    obtain ⟨k, m, hk, hm, rfl, HM0, hown, hnx⟩ := hrel
    have hsz := hnx.size
    obtain ⟨s, hs⟩ : ∃ s, setF (l.take k) = s := ⟨_, rfl⟩
    have HM : Hid (s.length = m) := by show _ = _; rw [← hs]; exact HM0.out
    rw [hs] at hown
    have HUP : Hid (Rising s) := by show Rising s; rw [← hs]; exact (setF_up _).rising
    have HS := Lib.hid hs
    clear hs HM0
    obtain ⟨vo, vc, rfl, _, _⟩ := own_form hown
    have HWD := Lib.hid (words_own HM.out.symm hown)
    have HOWN := Lib.hid hown
    have HNX := Lib.hid hnx
    by_cases hlt : k < n
    · obtain ⟨b, off, rfl, hb, hc⟩ := (HW.out.below hnx (Nat.le_refl _)) (by rw [HN.out]; omega)
      have c0 := hc k (by rw [HN.out]; exact hlt)
      obtain ⟨x, hx⟩ : ∃ x, l.getD k 0 = x := ⟨_, rfl⟩
      rw [hx] at c0
      have HX := Lib.hid hx
      have hbw : b < wr.heap.size := by omega
      have KEEP : Hid (∀ X : World, X.heap = wr.heap → X.cell? ⟨b, off + k, none⟩ = some (.int .u64 x) ∧ b < X.heap.size ∧ WordsAt X X.heap.size vo s ∧ X.ownsRow w.heap.size 25 1 (.slice vo m vc) m (uV s)) := fun X hX => by
        refine ⟨?_, by rw [hX]; exact hbw, ?_, own_heap hX HOWN.out⟩
        · rw [cell_heap hX]; exact c0
        · have := words_heap hX HWD.out
          rwa [← hX] at this
      clear hc hx hown hnx c0 hbw HWD hsz
      obtain ⟨wo, hwo⟩ : ∃ wo : World, wo = wr := ⟨_, rfl⟩
      subst hwo
      go_wp2
      go_loopw [5, 6] (fun i j wr => ∃ lo hi : Nat, lo ≤ hi ∧ hi ≤ m ∧ i = .int .i64 lo ∧ j = .int .i64 hi ∧ Hid ((∀ k, k < lo → s.getD k 0 < x) ∧ ∀ k, hi ≤ k → k < m → x ≤ s.getD k 0) ∧ Hid (wr.heap = wo.heap) ∧ Below w.heap.size w wr) (fun i j _ => (intOf j).toNat - (intOf i).toNat)
      case atStart => exact ⟨0, m, Nat.zero_le _, Nat.le_refl _, rfl, rfl, ⟨fun k hk => by omega, fun k h1 h2 => by omega⟩, rfl, HNX.out⟩
      case round =>
        obtain ⟨lo, hi', h1, h2, rfl, rfl, HA, HH, hbx⟩ := hrel
        obtain ⟨c0, hbw, hwd, hown⟩ := KEEP.out wr HH.out
        have HWD := Lib.hid hwd
        have HOWN := Lib.hid hown
        have HBX := Lib.hid hbx
        have hsz := hbx.size
        clear hwd hown hbx
        by_cases hlt2 : lo < hi'
        · obtain ⟨g1, off1, rfl, hg1, hc1⟩ := HWD.out (by rw [HM.out]; omega)
          obtain ⟨t, ht⟩ : ∃ t, (lo + hi') / 2 = t := ⟨_, rfl⟩
          have hm1 : lo ≤ t := by omega
          have hm2 : t < hi' := by omega
          have hmI : ((lo : Int) + (hi' : Int)) / 2 = (t : Int) := by omega
          have c1 := hc1 t (by rw [HM.out]; omega)
          have HL1 : Hid (s.getD t 0 < x → ∀ k, k < t + 1 → s.getD k 0 < x) := fun e k hk => by
            have := HUP.out k t (by omega) (by rw [HM.out]; omega)
            omega
          have HL2 : Hid (¬ s.getD t 0 < x → ∀ k, t ≤ k → k < m → x ≤ s.getD k 0) := fun e k h3 h4 => by
            have := HUP.out t k h3 (by rw [HM.out]; exact h4)
            omega
          generalize s.getD t 0 = y at c1 HL1 HL2
          clear hc1 ht
          by_cases hyx : y < x
          · have HLL := Lib.hid (HL1.out hyx)
            clear HL1 HL2
            go_wp2_with (first | (with_reducible refine wp_region_lex (by kernel_rfl) (by kernel_rfl) ?_) | (with_reducible refine OnlyG.intro (by kernel_rfl) ?_))
            go_roundw
            case rel => exact ⟨t + 1, hi', by omega, h2, by go_num, rfl, ⟨HLL.out, HA.out.2⟩, HH.out, HBX.out.drew⟩
            case measure => simp [intOf]; omega
          · have HLL := Lib.hid (HL2.out hyx)
            clear HL1 HL2
            go_wp2_with (first | (with_reducible refine wp_region_lex (by kernel_rfl) (by kernel_rfl) ?_) | (with_reducible refine OnlyG.intro (by kernel_rfl) ?_))
            go_roundw
            case rel => exact ⟨lo, t, by omega, by omega, rfl, by go_num, ⟨HA.out.1, HLL.out⟩, HH.out, HBX.out.drew⟩
            case measure => simp [intOf]; omega
        · obtain rfl : lo = hi' := by omega
          by_cases hin : lo < m ∧ s.getD lo 0 = x
          · obtain ⟨g1, off1, rfl, hg1, hc1⟩ := HWD.out (by rw [HM.out]; omega)
            have c1 := hc1 lo (by rw [HM.out]; exact hin.1)
            obtain ⟨y, hy⟩ : ∃ y, s.getD lo 0 = y := ⟨_, rfl⟩
            have q1 : (y == x) = true := by rw [← hy]; simpa using hin.2
            rw [hy] at c1
            have HOLD : Hid (setF (l.take (k + 1)) = s) := by
              show _ = _
              rw [setF_old (by rw [HN.out]; exact hlt) (by rw [HS.out, HX.out, ← hin.2]; exact getD_mem (by rw [HM.out]; exact hin.1)), HS.out]
            have q0 : decide (lo < m) = true := by simpa using hin.1
            have hlm := hin.1
            clear hc1 hin hy
            go_wp2_with (first | (with_reducible refine wp_region_lex (by kernel_rfl) (by kernel_rfl) ?_) | (with_reducible refine OnlyG.intro (by kernel_rfl) ?_))
            go_roundw
            case rel => exact ⟨k + 1, m, by omega, by omega, by go_num, by show _ = _; rw [HOLD.out]; exact HM.out, by rw [HOLD.out]; exact HOWN.out, HBX.out.drew⟩
            case measure => simp [intOf]; omega
          · have HPUT : Hid (setF (l.take (k + 1)) = s.take lo ++ x :: s.drop lo) := by
              show _ = _
              rw [setF_put (by rw [HN.out]; exact hlt) HS.out (lo := lo) (by rw [HX.out]; exact HA.out.1) (by
                rw [HX.out]
                intro j h3 h4
                rw [HM.out] at h4
                have e1 := HA.out.2 j h3 h4
                have e2 := HUP.out lo j h3 (by rw [HM.out]; exact h4)
                have e3 := HA.out.2 lo (Nat.le_refl _) (by omega)
                by_cases e4 : s.getD lo 0 = x
                · exact absurd ⟨by omega, e4⟩ hin
                · omega), HX.out]
            have key : decide (lo < m) = false ∨ (lo < m ∧ decide (lo < m) = true ∧ ∃ g1 off1 y, vo = some ⟨g1, off1, none⟩ ∧ g1 < wr.heap.size ∧ wr.cell? ⟨g1, off1 + lo, none⟩ = some (.int .u64 y) ∧ (y == x) = false) := by
              by_cases e : lo < m
              · refine .inr ⟨e, by simpa using e, ?_⟩
                obtain ⟨g1, off1, rfl, hg1, hc1⟩ := HWD.out (by rw [HM.out]; omega)
                exact ⟨g1, off1, _, rfl, hg1, hc1 lo (by rw [HM.out]; exact e), by simpa using fun h => hin ⟨e, h⟩⟩
              · exact .inl (by simpa using e)
            clear hin hlt2
            rcases key with q0 | ⟨hlm, q0, g1, off1, y, rfl, hg1, c1, q1⟩
            all_goals
              have hown := HOWN.out
              go_upto_region 13 with (first | (with_reducible refine wp_region_lex (by kernel_rfl) (by kernel_rfl) ?_) | (with_reducible refine OnlyG.intro (by kernel_rfl) ?_) | (at_builtin; refine wpList_append_own _ rfl (.tmp 50) (.tmp 51) 22 rfl w.heap.size 25 i0 (.int .u64 0) 1 8 Tryz.underlying22 hi hz0 hz1 hz2 rfl (by decide) _ _ _ rfl (hown.alloc _) ⟨wr.heap.size, 0, none⟩ 1 1 [.int .u64 0] rfl rfl (cells_new _ _ _ _ rfl) (by simp [Value.oneCell']) (by unfold maxLen; omega) (by omega) (by simp; omega) ?_; intro v' w3 hown1 hgrow _))
              have hbel : Below w.heap.size w w3 := below_append (HBX.out.drew.alloc hsz _) (hown.alloc _) (by simp; omega) hgrow
              rcases hown1.2 with ⟨_, h0⟩ | ⟨g, cap, ⟨cur⟩, rfl, hbg, hheap, hcap, hmax, hcsz, htake⟩
              · omega
              obtain ⟨e, he⟩ : ∃ e, s.drop lo = e := ⟨_, rfl⟩
              have hdl : (uV e).length = m - lo := by rw [uV_len, ← he, List.length_drop, HM.out]
              have hmin : (uV e).length = Nat.min (m + 1 - lo) (m - lo) := by rw [hdl]; show _ = min _ _; omega
              have hfit : lo + 1 + (uV e).length ≤ cur.length := by rw [hdl]; have : cur.length = cap := by simpa using hcsz
                                                                    omega
              have HPOS : Hid (0 < (uV e).length → (if cap = lo + 1 then some (⟨g, 0, none⟩ : Addr) else some ⟨g, lo + 1, none⟩) = some ⟨g, lo + 1, none⟩ ∧ ∃ ad, some (⟨g, lo, none⟩ : Addr) = some ad ∧ ∀ j v, (uV e)[j]? = some v → w3.drew.cell? (ad.add j) = some v) := fun h0 => by
                refine ⟨by rw [if_neg (by omega)], _, rfl, fun j v hj => ?_⟩
                have hj' : j < (uV e).length := (List.getElem?_eq_some_iff.1 hj).1
                have hadd : (⟨g, lo, none⟩ : Addr).add j = ⟨g, lo + j, none⟩ := by unfold Addr.add; split <;> simp_all
                rw [hadd, cell_heap (X := w3.drew) (w := w3) rfl, hown1.cellAt (lo + j) (by omega), List.getElem?_append_left (by rw [uV_len, HM.out]; omega), ← hj, ← he]
                simp [uV]
              have HTK : Hid (cur.take (m + 1) = uV s ++ [.int .u64 0]) := by show _ = _; rw [← htake, Nat.mul_one]
              have HCL : Hid (cur.length = cap) := by show _ = _; simpa using hcsz
              have HDE := Lib.hid he
              have hheap' : w3.drew.heap[g]? = some (.cells cur.toArray 25 (0, 0)) := hheap
              have hbel' := hbel.drew
              have hw1 : IntKind.i64.wrap ((lo : Int) + 1) = (lo : Int) + 1 := IntWalk.i64_in _ (by omega)
              have hb1 : (lo : Int) + 1 ≤ (m : Int) + 1 := by omega
              have hb2 : (lo : Int) ≤ (m : Int) + 1 := by omega
              have hb0 : (0 : Int) ≤ (lo : Int) + 1 := by omega
              have hne : ¬ cap = lo := by omega
              clear htake hcsz hown1 hgrow hown he hdl
              go_region_law (refine step_copy_splice rfl (.tmp 56) (.tmp 59) 22 22 rfl 25 Tryz.underlying22 hsz1 (if cap = lo + 1 then some (⟨g, 0, none⟩ : Addr) else some ⟨g, lo + 1, none⟩) (some ⟨g, lo, none⟩) (m - lo) (cap - (lo + 1)) (m + 1 - lo) (cap - lo) (by simp [Act.eval, Act.put]) (by simp [Act.eval, Act.put]) g (lo + 1) cur 25 hheap' (uV e) hmin HPOS.out hfit (uV_cell _) w.heap.size w hbel' hbg ?_; intro w4 HG4 hb4)
              have hput := HG4.out
              have c4 : w4.cell? ⟨b, off + k, none⟩ = some (.int .u64 x) := (hb4.cell (p := ⟨b, off + k, none⟩) hb).trans ((HBX.out.cell (p := ⟨b, off + k, none⟩) hb).symm.trans c0)
              have hbw4 : b < w4.heap.size := by have := hb4.size; omega
              have hg4 : g < w4.heap.size := (Array.getElem?_eq_some_iff.1 hput).1
              have hsl : lo < (splice cur (lo + 1) (uV e)).length := by rw [length_splice _ _ _ hfit, HCL.out]; omega
              have c5 : w4.cell? ⟨g, lo, none⟩ = some (splice cur (lo + 1) (uV e))[lo] := by
                rw [cell_of_row _ _ _ _ _ _ hput, List.getElem?_toArray, List.getElem?_eq_getElem hsl]
              have hf5 : w4.frozen? ⟨g, lo, none⟩ = false := by simp [World.frozen?, hput]
              have HG5 := Lib.hid (hput)
              generalize (splice cur (lo + 1) (uV e))[lo] = y5 at c5
              have HB5 : Hid (Below w.heap.size w (w4.setCell ⟨g, lo, none⟩ (.int .u64 x))) := hb4.setCell hbg _
              have HOWN5 : Hid ((w4.setCell ⟨g, lo, none⟩ (.int .u64 x)).ownsRow w.heap.size 25 1 (.slice (some ⟨g, 0, none⟩) (m + 1) cap) (m + 1) (uV (setF (l.take (k + 1))))) := by
                have hh : w4.heap[g]? = some (.cells (splice cur (lo + 1) (uV (s.drop lo))).toArray 25 (0, 0)) := by rw [HDE.out]; exact hput
                have := own_put (x := x) hbg HM.out h2 hcap hmax HCL.out HTK.out hh
                rw [← HPUT.out] at this
                exact this
              have HLEN : Hid ((setF (l.take (k + 1))).length = m + 1) := by
                show _ = _
                rw [HPUT.out, List.length_append, List.length_cons, List.length_take, List.length_drop, HM.out]
                omega
              clear hput hb4 hsl hheap hheap' hbel hbel' hfit hmin
              go_wp2_with (first | (with_reducible refine wp_region_lex (by kernel_rfl) (by kernel_rfl) ?_) | (with_reducible refine OnlyG.intro (by kernel_rfl) ?_))
              go_roundw
              case rel => exact ⟨k + 1, m + 1, by omega, by omega, by go_num, HLEN.out, HOWN5.out, HB5.out⟩
              case measure => simp [intOf]; omega
    · obtain rfl : k = n := by omega
      have HT : Hid (s = setF l) := by show _ = _; rw [← HS.out, ← HN.out, List.take_length]
      have hwd := words_own HM.out.symm hown
      have hJ : Hid (JoinedO w (setF l) (.returned (.slice vo m vc)) wr) := ⟨vo, vc, by rw [← HT.out, HM.out], by rw [← HT.out, HM.out]; exact hown, hnx⟩
      clear hwd hown hnx
      go_wp2
      go_ret
      exact hJ.out
end Go.Proofs.YtkjfdaleamonaaaGreat
/- Contract of apiaryref1.Spread. -/
namespace Go.Proofs.YtkjfdaleamonaaaGreat
open Go.RowKit Go.Lib Wd

def kidV (v : Int) : List Int := dsN 1 (rW v.toNat) (zW v.toNat)
theorem kidV_word {k : Nat} {z : E2} (hz : okB k z = true) : kidV (wordN k z : Int) = dsN 1 k z := by
  obtain ⟨a, b, c⟩ := word_cell hz
  unfold kidV
  rw [Int.toNat_natCast, b, c]
theorem flatMap_on {α β : Type} {f g : α → List β} : ∀ {l : List α}, (∀ a ∈ l, f a = g a) → l.flatMap f = l.flatMap g
  | [], _ => rfl
  | a :: l, h => by rw [List.flatMap_cons, List.flatMap_cons, h a (by simp), flatMap_on fun b hb => h b (by simp [hb])]
theorem ds_succ : ∀ (d k : Nat) {z : E2}, k + d + 1 ≤ 12 → okB k z = true → dsN (d + 1) k z = (dsN d k z).flatMap kidV
  | 0, k, z, _, hz => by
    show dsN 1 k z = [(wordN k z : Int)].flatMap kidV
    rw [List.flatMap_cons, List.flatMap_nil, List.append_nil, kidV_word hz]
  | d + 1, k, z, hk, hz => by
    show (List.range 7).flatMap (fun i => dsN (d + 1) (k + 1) (downE z i)) = ((List.range 7).flatMap fun i => dsN d (k + 1) (downE z i)).flatMap kidV
    rw [List.flatMap_assoc]
    refine flatMap_on fun i hi => ?_
    exact ds_succ d (k + 1) (by omega) (kid_ok hz (by omega) (List.mem_range.1 hi))
theorem flat_snoc (f : Int → List Int) (l : List Int) {k : Nat} (hk : k < l.length) : (l.take (k + 1)).flatMap f = (l.take k).flatMap f ++ f (l.getD k 0) := by
  rw [take_w l hk, List.flatMap_append, List.flatMap_cons, List.flatMap_nil, List.append_nil]
theorem dsV_word {R k : Nat} {z : E2} (hz : okB k z = true) : dsV R (wordN k z : Int) = dsN (R - k) k z := by
  obtain ⟨a, b, c⟩ := word_cell hz
  unfold dsV
  rw [Int.toNat_natCast, b, c]
theorem word_of {v : Int} (h0 : 0 ≤ v) (h : isW v.toNat = true) : ∃ z, okB (rW v.toNat) z = true ∧ v = (wordN (rW v.toNat) z : Int) := by
  obtain ⟨a, b⟩ := cell_word h
  exact ⟨zW v.toNat, a, by omega⟩
set_option maxRecDepth 100000 in
set_option maxHeartbeats 16000000 in
theorem rspread_any (ao : Option Addr) (c : Nat) (l : List Int) (r : Int) (w : World) (B : Nat) (h : WordsAt w B ao l) (hB : B ≤ w.heap.size) (hn : l.length ≤ 1000000) (h64 : In64 l) :
    Calls Tryz.prog 37 #[.slice ao l.length c, .int .i64 r] w (ToldP w (sprL l r) (sprE l r)) := by
  obtain ⟨i0, hi, hz0, hz1, hz2⟩ := info_parts info_u
  have HNIL : Hid (∀ err w', Below w.heap.size w w' → sprE l r = err → err ≠ 0 → ToldP w (sprL l r) (sprE l r) (.returned (.tuple #[.slice none 0 0, .int .i64 err])) w') := fun err w' hb he h0 => by
    have : sprL l r = [] := by unfold sprL; rw [if_neg (by rw [he]; exact h0)]
    rw [this, he]
    exact ⟨none, 0, rfl, World.ownsRow_nil _ _ _ _, hb⟩
  have hsz := rsize_any ao c l r w B h hB hn h64
  obtain ⟨n, hnn⟩ : ∃ n, l.length = n := ⟨_, rfl⟩
  have HN := Lib.hid hnn
  have HW := Lib.hid h
  rw [hnn] at hn hsz ⊢
  by_cases hE : szE l r = 0
  · obtain ⟨R, rfl, hR, ha, hrs, hN⟩ := szE_zero hE
    rw [hE, hN] at hsz
    by_cases hbig : 20000 < sumS R l
    · have HF := Lib.hid (HNIL.out 7 · · (by unfold sprE; rw [if_pos hE, Int.toNat_natCast, if_pos hbig]) (by decide))
      generalize sumS R l = S at *
      have q1 : decide (20000 < (S : Int)) = true := decide_eq_true (by omega)
      have q1n : decide (20000 < S) = true := decide_eq_true hbig
      have HS := Lib.hid hsz
      clear hE ha hrs hN hbig hsz h hnn h64
      go_enter Tryz.func37, Tryz.ntmps37
      go_wp2_with fail
      refine HS.out.mono ?_
      rintro e w1 ⟨rfl, hb1⟩
      have HFF := Lib.hid (HF.out w1 hb1)
      clear hb1
      go_wp2
      go_ret2
      exact HFF.out
    · have hsE : sprE l R = 0 := by unfold sprE; rw [if_pos hE, Int.toNat_natCast, if_neg hbig]
      have hsL : sprL l R = setF (l.flatMap (dsV R)) := by unfold sprL; rw [if_pos hsE, Int.toNat_natCast]
      rw [hsE, hsL]
      have HV : Hid (∀ i, i < n → ∃ q z, l.getD i 0 = (wordN q z : Int) ∧ okB q z = true ∧ q ≤ R ∧ (wordN q z : Int) / 72057594037927936 = ((wordN q z / 72057594037927936 : Nat) : Int) ∧ bits .and .u64 ((wordN q z : Int) / 72057594037927936) 15 = (q : Int) ∧ dsV R (wordN q z : Int) = dsN (R - q) q z ∧ 7 ^ (R - q) ≤ sumS R l) := fun i hi => by
        have hm : l.getD i 0 ∈ l := getD_mem (j := i) (by omega)
        have h1 := List.all_eq_true.1 ha _ hm
        have h2 := h64 _ hm
        obtain ⟨z, hz, hv⟩ := word_of h2.1 h1
        have h3 := hrs _ hm
        obtain ⟨a1, a2, a3⟩ := word_cell hz
        have hl := (wordN_lt hz).1
        have h5 := sumS_snoc R l (k := i) (by omega)
        have h6 := sumS_le R (l := l) (i + 1)
        generalize rW (l.getD i 0).toNat = q at *
        obtain ⟨v1, -, -⟩ := head_val (wordN q z) (by omega)
        rw [a2] at v1
        exact ⟨q, z, hv, hz, h3, by omega, v1, dsV_word hz, by omega⟩
      have HFS : Hid (∀ i, i < n → (l.take (i + 1)).flatMap (dsV R) = (l.take i).flatMap (dsV R) ++ dsV R (l.getD i 0)) := fun i hi => flat_snoc _ _ (by omega)
      have HEND : Hid (l.take n = l) := List.take_of_length_le (by omega)
      have HLN : Hid (∀ i, i < n → sumS R (l.take (i + 1)) = sumS R (l.take i) + 7 ^ (R - rW (l.getD i 0).toNat)) := fun i hi => sumS_snoc R l (by omega)
      have HLE : Hid (∀ i, sumS R (l.take i) ≤ 20000) := fun i => Nat.le_trans (sumS_le R i) (by omega)
      have hS2 : sumS R l ≤ 20000 := by omega
      have q1 : decide (20000 < ((sumS R l : Nat) : Int)) = false := decide_eq_false (by omega)
      have q1n : decide (20000 < sumS R l) = false := decide_eq_false (by omega)
      have HSZ := Lib.hid hsz
      generalize sumS R l = S at *
      clear hE ha hrs hN hsz h hnn h64 hbig hsE hsL HNIL
      go_enter Tryz.func37, Tryz.ntmps37
      go_wp2_with fail
      refine HSZ.out.mono ?_
      rintro e w1 ⟨rfl, hb1⟩
      have HB1 := Lib.hid hb1
      clear hb1
      go_wp2
      go_loopw [8, 9] (fun sv i wr => ∃ (k m : Nat) (oo : Option Addr) (oc : Nat), k ≤ n ∧ m ≤ 20000 ∧ i = .int .i64 k ∧ sv = .slice oo m oc ∧ Hid (m = sumS R (l.take k)) ∧ Hid (wr.ownsRow w.heap.size 25 1 (.slice oo m oc) m (uV ((l.take k).flatMap (dsV R)))) ∧ Hid (Below w.heap.size w wr)) (fun _ i _ => n - (intOf i).toNat)
      case atStart => exact ⟨0, 0, none, 0, by omega, by omega, rfl, rfl, rfl, World.ownsRow_nil _ _ _ _, HB1.out⟩
      case round =>
        obtain ⟨k, m, oo, oc, hk, hm, rfl, rfl, HM, HO, HI⟩ := hrel
        have hsz := HI.out.size
        by_cases hlt : k < n
        · obtain ⟨g, off, rfl, hg, hc⟩ := (HW.out.below HI.out hB) (by rw [HN.out]; omega)
          have c0 := hc k (by rw [HN.out]; exact hlt)
          obtain ⟨q, z, hv, hz, hq, hw1, hw2, hds, h7⟩ := HV.out k hlt
          rw [hv] at c0
          have hfs := HFS.out k hlt
          rw [hv, hds] at hfs
          have hln := HLN.out k hlt
          rw [hv, Int.toNat_natCast, (word_cell hz).2.1] at hln
          have hle := HLE.out (k + 1)
          have HFS2 := Lib.hid hfs
          have HLN2 := Lib.hid hln
          have q3 : decide ((k : Int) < (n : Int)) = true := decide_eq_true (by omega)
          obtain ⟨W, hW⟩ : ∃ W, wordN q z = W := ⟨_, rfl⟩
          have HWE := Lib.hid hW
          rw [hW] at c0 hw2
          have hq12 : q ≤ 12 := by omega
          have hgw : g < wr.heap.size := by omega
          have HZ := Lib.hid hz
          have H7 := Lib.hid h7
          have HLE2 := Lib.hid hle
          clear hc hv hw1 hds hfs hln hW hz h7 hle
          go_upto_region 11 with (fail)
          have hba : Below wr.heap.size wr (wr.alloc (.cells #[.int .u64 W] 25)) := (Below.refl _ _).alloc (Nat.le_refl _) _
          have HOa := Lib.hid (own_later HO.out hba)
          have HIa := Lib.hid (HI.out.trans (hba.mono hsz))
          have NA : Hid (WordsAt (wr.alloc (.cells #[.int .u64 W] 25)) (wr.alloc (.cells #[.int .u64 W] 25)).heap.size (some ⟨wr.heap.size, 0, none⟩) (dsN 0 q z)) := by
            have h := words_new wr [(W : Int)] 25
            rw [← HWE.out] at h ⊢
            exact h.wider (by simp)
          have c0a : (wr.alloc (.cells #[.int .u64 W] 25)).cell? ⟨g, off + k, none⟩ = some (.int .u64 W) := (hba.cell (p := ⟨g, off + k, none⟩) hgw).trans c0
          have hga : g < (wr.alloc (.cells #[.int .u64 W] 25)).heap.size := Nat.lt_of_lt_of_le hgw hba.size
          generalize hwa : wr.alloc (.cells #[.int .u64 W] 25) = wa at *
          clear c0 hba HO HI hwa
          have hsa := HIa.out.size
          go_wp2
          go_loopw [10, 11] (fun nv kv wx => ∃ (e m2 : Nat) (no : Option Addr) (nc : Nat), q ≤ e ∧ e ≤ R ∧ kv = .int .i64 e ∧ nv = .slice no m2 nc ∧ m2 ≤ 20000 ∧ Hid (m2 = 7 ^ (e - q)) ∧ Hid (WordsAt wx wx.heap.size no (dsN (e - q) q z)) ∧ Hid (Below wa.heap.size wa wx)) (fun _ i _ => R - (intOf i).toNat)
          case atStart => exact ⟨q, 1, some ⟨wr.heap.size, 0, none⟩, 1, Nat.le_refl _, hq, rfl, rfl, by omega, by show _ = _; rw [Nat.sub_self], by rw [Nat.sub_self]; exact NA.out, Below.refl _ _⟩
          case round =>
            obtain ⟨e, m2, no, nc, he1, he2, rfl, rfl, hm2, HM2, HNW, HX⟩ := hrel
            obtain ⟨wx, rfl⟩ : ∃ wx, wx = wr := ⟨_, rfl⟩
            have hsx := HX.out.size
            have hDl : (dsN (e - q) q z).length = m2 := by rw [ds_len, HM2.out]
            have hm0 : 0 < m2 := by rw [HM2.out]; exact Nat.pow_pos (by decide)
            by_cases hlt2 : e < R
            · have q4 : decide ((e : Int) < (R : Int)) = true := decide_eq_true (by omega)
              have hk7 : 7 * m2 ≤ 20000 := by
                have h1 : 7 ^ (e - q) * 7 ≤ 7 ^ (R - q) := by rw [← Nat.pow_succ]; exact Nat.pow_le_pow_right (by decide) (by omega)
                have h2 := HM2.out
                have h3 := H7.out
                omega
              have hD' : dsN (e + 1 - q) q z = (dsN (e - q) q z).flatMap kidV := by
                rw [show e + 1 - q = (e - q) + 1 by omega]
                exact ds_succ _ _ (by omega) HZ.out
              have HKJ : Hid (∀ j, j < m2 → ∃ y, (dsN (e - q) q z).getD j 0 = (wordN e y : Int) ∧ okB e y = true ∧ kidV ((dsN (e - q) q z).getD j 0) = dsN 1 e y) := fun j hj => by
                obtain ⟨y, hy, -, hv⟩ := (ds_mem (e - q) q z (by omega) HZ.out _).1 (getD_mem (l := dsN (e - q) q z) (j := j) (by omega))
                rw [show q + (e - q) = e by omega] at hy hv
                exact ⟨y, hv, hy, by rw [hv]; exact kidV_word hy⟩
              obtain ⟨D, hD⟩ : ∃ D, dsN (e - q) q z = D := ⟨_, rfl⟩
              rw [hD] at HKJ hD' HNW hDl
              have HFJ : Hid (∀ j, j < m2 → (D.take (j + 1)).flatMap kidV = (D.take j).flatMap kidV ++ kidV (D.getD j 0)) := fun j hj => flat_snoc _ _ (by omega)
              have HTJ : Hid (D.take m2 = D) := List.take_of_length_le (by omega)
              have HDL := Lib.hid hDl
              have HD' := Lib.hid hD'
              have hM3 : m2 * 7 = 7 ^ (e + 1 - q) := by rw [show e + 1 - q = (e - q) + 1 by omega, Nat.pow_succ, HM2.out]
              have HM3 := Lib.hid hM3
              clear hD hDl hD' hM3 HM2
              go_wp2
              go_loopw [12, 13] (fun xv jv wy => ∃ (j t : Nat) (xo : Option Addr) (xc : Nat), j ≤ m2 ∧ t ≤ 20000 ∧ jv = .int .i64 j ∧ xv = .slice xo t xc ∧ Hid (t = j * 7) ∧ Hid (wy.ownsRow wx.heap.size 25 1 (.slice xo t xc) t (uV ((D.take j).flatMap kidV))) ∧ Hid (Below wx.heap.size wx wy)) (fun _ i _ => m2 - (intOf i).toNat)
              case atStart => exact ⟨0, 0, none, 0, by omega, by omega, rfl, rfl, rfl, World.ownsRow_nil _ _ _ _, Below.refl _ _⟩
              case round =>
                obtain ⟨j, t, xo, xc, hj, ht, rfl, rfl, HT, HXO, HY⟩ := hrel
                obtain ⟨wy, rfl⟩ : ∃ wy, wy = wr := ⟨_, rfl⟩
                have hsy := HY.out.size
                by_cases hlt3 : j < m2
                · obtain ⟨g2, off2, rfl, hg2, hc2⟩ := (HNW.out.below HY.out (Nat.le_refl _)) (by rw [HDL.out]; omega)
                  have c2 := hc2 j (by rw [HDL.out]; exact hlt3)
                  obtain ⟨y, hy1, hy2, hy3⟩ := HKJ.out j hlt3
                  have hfj := HFJ.out j hlt3
                  rw [hy3] at hfj
                  rw [hy1] at c2
                  have HKC := Lib.hid (rkw_in hy2 (by omega) wy)
                  have HFJ2 := Lib.hid hfj
                  have q5 : decide ((j : Int) < (m2 : Int)) = true := decide_eq_true (by omega)
                  have hgy : g2 < wy.heap.size := Nat.lt_of_lt_of_le hg2 hsy
                  have ht7 : t + 7 ≤ 20000 := by have := HT.out; omega
                  clear hc2 hy1 hy2 hy3 hfj
                  obtain ⟨C, hC⟩ : ∃ C, dsN 1 e y = C := ⟨_, rfl⟩
                  have hCl : C.length = 7 := by rw [← hC]; exact ds_len _ _ _
                  rw [hC] at HKC HFJ2
                  have HCL := Lib.hid hCl
                  generalize wordN e y = V at *
                  clear hC hCl
                  go_wp2_with fail
                  refine HKC.out.mono ?_
                  rintro e4 w4 ⟨ko, kc, rfl, hko, hb4⟩
                  obtain ⟨ko', kc', hform, -, hkg⟩ := own_form hko
                  cases hform
                  obtain ⟨g4, rfl, -, hg4, hn4⟩ := hkg (by omega)
                  have hB4 := HY.out.trans (hb4.mono hsy)
                  have hown := own_later HXO.out hb4
                  have hbs := hB4.size
                  have hnw : ∀ j u, (uV C)[j]? = some u → w4.cell? ((⟨g4, 0, none⟩ : Addr).add j) = some u := fun j u hu => by rw [Addr.add_lit, Nat.zero_add]; exact hn4 j u hu
                  have HB4 := Lib.hid hB4
                  clear hb4 hko hkg hn4 hB4 HKC HXO HY c2
                  go_wp2_with (at_builtin; refine wpList_append_own_at _ rfl (.tmp 54) (.tmp 59) 22 rfl wx.heap.size 25 i0 (.int .u64 0) 1 8 Tryz.underlying22 hi hz0 hz1 hz2 rfl (by decide) _ t (uV ((D.take j).flatMap kidV)) rfl hown ⟨g4, 0, none⟩ 7 kc (uV C) rfl (by rw [uV_len, HCL.out]) hnw (uV_cell C) (by unfold maxLen; omega) (by omega) hbs ?_; intro v5 w5 hown5 hgrow5 _ _)
                  obtain ⟨xo5, xc5, rfl, -⟩ := own_form hown5
                  have HX5 : Hid (w5.ownsRow wx.heap.size 25 1 (.slice xo5 (t + 7) xc5) (t + 7) (uV ((D.take (j + 1)).flatMap kidV))) := by rw [HFJ2.out, show uV ((D.take j).flatMap kidV ++ C) = uV ((D.take j).flatMap kidV) ++ uV C by simp [uV]]; exact hown5
                  have HY5 := Lib.hid (below_append HB4.out hown hbs hgrow5)
                  clear hown5 hgrow5 hown hbs HB4 hnw
                  go_roundw
                  case rel => exact ⟨j + 1, t + 7, xo5, xc5, by omega, ht7, by go_num, rfl, by show _ = _; rw [HT.out]; omega, HX5.out, HY5.out⟩
                  case measure => simp [intOf]; omega
                · obtain rfl : j = m2 := by omega
                  have q5 : decide ((j : Int) < (j : Int)) = false := decide_eq_false (by omega)
                  have ho := HXO.out
                  rw [HTJ.out, ← HD'.out] at ho
                  have HWO := Lib.hid (words_own (by rw [ds_len, HT.out, HM3.out]) ho)
                  have HX6 := Lib.hid (HX.out.trans (HY.out.mono hsx))
                  have HT6 : Hid (t = 7 ^ (e + 1 - q)) := by show _ = _; rw [HT.out, HM3.out]
                  clear ho HXO HY HX HT
                  go_wp2
                  go_roundw
                  case rel => exact ⟨e + 1, t, xo, xc, by omega, by omega, by go_num, rfl, ht, HT6.out, HWO.out, HX6.out⟩
                  case measure => simp [intOf]; omega
            · obtain rfl : e = R := by omega
              have q4 : decide ((e : Int) < (e : Int)) = false := decide_eq_false (by omega)
              obtain ⟨g2, off2, rfl, hg2, -⟩ := HNW.out (by omega)
              have hown := own_later HOa.out HX.out
              have HI2 := Lib.hid (HIa.out.trans (HX.out.mono hsa))
              have hbs := HI2.out.size
              have hnw := words_news HNW.out ⟨g2, off2, none⟩ rfl
              obtain ⟨D, hD⟩ : ∃ D, dsN (e - q) q z = D := ⟨_, rfl⟩
              rw [hD] at hnw hDl
              have HDL := Lib.hid hDl
              have HFS3 := HFS2.out
              rw [hD] at HFS3
              have HFS4 := Lib.hid HFS3
              have hmm : m + m2 = sumS e (l.take (k + 1)) := by rw [HLN2.out, HM2.out, HM.out]
              have HMM := Lib.hid hmm
              have hm20 : m + m2 ≤ 20000 := by have := HLE2.out; omega
              clear hD hDl HFS3 hmm HFS2 HLN2 HM2 HM HNW HX HOa HIa HZ
              go_wp2_with (at_builtin; refine wpList_append_own_at _ rfl (.tmp 62) (.tmp 63) 22 rfl w.heap.size 25 i0 (.int .u64 0) 1 8 Tryz.underlying22 hi hz0 hz1 hz2 rfl (by decide) _ m (uV ((l.take k).flatMap (dsV e))) rfl hown ⟨g2, off2, none⟩ m2 nc (uV D) rfl (by rw [uV_len, HDL.out, Nat.mul_one]) hnw (uV_cell D) (by unfold maxLen; omega) (by omega) hbs ?_; intro v5 w5 hown5 hgrow5 _ _)
              obtain ⟨xo5, xc5, rfl, -⟩ := own_form hown5
              have HX5 : Hid (w5.ownsRow w.heap.size 25 1 (.slice xo5 (m + m2) xc5) (m + m2) (uV ((l.take (k + 1)).flatMap (dsV e)))) := by rw [HFS4.out, show uV ((l.take k).flatMap (dsV e) ++ D) = uV ((l.take k).flatMap (dsV e)) ++ uV D by simp [uV]]; exact hown5
              have HY5 := Lib.hid (below_append HI2.out hown hbs hgrow5)
              clear hown5 hgrow5 hown hbs HI2 hnw
              go_roundw
              case rel => exact ⟨k + 1, m + m2, xo5, xc5, by omega, hm20, by go_num, rfl, HMM.out, HX5.out, HY5.out⟩
              case measure => simp [intOf]; omega
        · obtain rfl : k = n := by omega
          have q5 : decide ((k : Int) < (k : Int)) = false := decide_eq_false (by omega)
          have ho := HO.out
          rw [HEND.out] at ho
          obtain ⟨T, hT⟩ : ∃ T, l.flatMap (dsV R) = T := ⟨_, rfl⟩
          rw [hT] at ho
          have HTT := Lib.hid hT
          have hTl : T.length = m := by have := ho.1; rw [uV_len] at this; omega
          have hset := rset_own oo oc T wr (words_own hTl.symm ho) (by omega)
          rw [hTl] at hset
          have HSET := Lib.hid hset
          have HB2 := Lib.hid HI.out
          clear ho hT hTl hset HO HI HM
          go_wp2_with fail
          refine HSET.out.mono ?_
          rintro e4 w4 ⟨so, sc, rfl, hw4, hb4⟩
          have HF : Hid (ToldP w (setF T) 0 (.returned (.tuple #[.slice so (setF T).length sc, .int .i64 0])) w4) := ⟨so, sc, rfl, own_base hw4 HB2.out.size, HB2.out.trans (hb4.mono HB2.out.size)⟩
          clear hw4 hb4
          go_wp2
          go_ret2
          rw [HTT.out]
          exact HF.out
  · have HF := Lib.hid (HNIL.out (szE l r) · · (by unfold sprE; rw [if_neg hE]) hE)
    generalize szE l r = E at *
    generalize szN l r = S at *
    have q1 : (E != 0) = true := by simp [hE]
    have HS := Lib.hid hsz
    clear hE hsz h hnn h64
    go_enter Tryz.func37, Tryz.ntmps37
    go_wp2_with fail
    refine HS.out.mono ?_
    rintro e w1 ⟨rfl, hb1⟩
    have HFF := Lib.hid (HF.out w1 hb1)
    clear hb1
    go_wp2
    go_ret2
    exact HFF.out
end Go.Proofs.YtkjfdaleamonaaaGreat
/- The contract of apiarylaw8.Words: some words of one size. -/
namespace Go.Proofs.YtkjfdaleamonaaaGreat
open Go.RowKit Go.Lib Wd

theorem par_word {q : Nat} {y : E2} (hy : okB q y = true) : (q = 0 ∧ parE (wordN q y) = 3) ∨ (∃ q', q = q' + 1 ∧ parE (wordN q y) = 0 ∧ parW (wordN q y) = wordN q' (upE y) ∧ okB q' (upE y) = true) := by
  obtain ⟨a, b, c⟩ := word_cell hy
  cases q with
  | zero => exact .inl ⟨rfl, by unfold parE; rw [if_pos a, if_pos b]⟩
  | succ q' =>
    have ho := up_ok hy
    refine .inr ⟨q', rfl, by unfold parE; rw [if_pos a, if_neg (by rw [b]; omega)], ?_, ho⟩
    unfold parW
    rw [if_pos ⟨a, by rw [b]; omega⟩, b, c, show ((q' + 1 : Nat) : Int) - 1 = (q' : Int) by omega, (ofW_ok ho).1]
set_option maxRecDepth 100000 in
set_option maxHeartbeats 16000000 in
theorem words8_any (a0 : Option Addr) (n0 c0 : Nat) (z0 : Nat → Int) (r : Int) (w : World) (B : Nat) (h : IntsAtK .i64 w B a0 n0 z0) (hB : B ≤ w.heap.size) (hn : n0 ≤ 1000000000000) :
    Calls Tryz.prog 30 #[.slice a0 n0 c0, .int .i64 r] w fun e w' => ∃ (L : List Int) (m : Nat) (ao : Option Addr) (c : Nat), e = .returned (.slice ao m c) ∧ L.length = m ∧ m ≤ 400 ∧ Sized (r % 13).toNat L ∧ w'.ownsRow w.heap.size 25 1 (.slice ao m c) m (uV L) ∧ Below w.heap.size w w' := by
  obtain ⟨i0, hi, hz0, hz1, hz2⟩ := info_parts info_u
  obtain ⟨hr2, hr1⟩ := rem13 r
  obtain ⟨R, hR, hR12⟩ : ∃ R : Nat, r % 13 = R ∧ R ≤ 12 := ⟨(r % 13).toNat, by omega, by omega⟩
  rw [hR] at hr1 ⊢
  rw [Int.toNat_natCast]
  obtain ⟨s, hs⟩ : ∃ s, r.tmod 13 = s := ⟨_, rfl⟩
  rw [hs] at hr1 hr2
  obtain ⟨hr3, hr4⟩ := hr2
  have HX := Lib.hid h
  have HLW : Hid (∀ x y w, Calls Tryz.prog 14 #[.int .i64 x, .int .i64 y, .int .i64 R] w fun e w' => e = .returned (.int .u64 (wordN R (someE x y R) : Nat)) ∧ Below w.heap.size w w') := fun x y w => by
    have h := lword_w x y (R : Int) w
    rwa [show ((R : Int) % 13).toNat = R by omega] at h
  clear h hR
  go_enter Tryz.func30, Tryz.ntmps30
  go_wp2
  go_loopw [5, 6] (fun lv i wr => ∃ (L : List Int) (m I : Nat) (lo : Option Addr) (lc : Nat), I ≤ 13 ∧ m ≤ 25 * I ∧ i = .int .i64 I ∧ lv = .slice lo m lc ∧ Hid (L.length = m ∧ Sized R L ∧ wr.ownsRow w.heap.size 25 1 (.slice lo m lc) m (uV L)) ∧ Hid (Below w.heap.size w wr)) (fun _ i _ => 14 - (intOf i).toNat)
  case atStart => exact ⟨[], 0, 0, none, 0, by omega, by omega, rfl, rfl, ⟨rfl, fun v hv => by simp at hv, World.ownsRow_nil _ _ _ _⟩, Below.refl _ _⟩
  case round =>
    obtain ⟨L, m, I, lo, lc, hI, hm, rfl, rfl, HL, HI⟩ := hrel
    obtain ⟨wo, rfl⟩ : ∃ wo, wo = wr := ⟨_, rfl⟩
    have hsz := HI.out.size
    have hwi : IntKind.i64.wrap ((I : Int) + 1) = (I : Int) + 1 := IntWalk.i64_in _ (by omega)
    by_cases h1 : I + 1 < n0
    · have q3 : decide ((I : Int) + 1 < (n0 : Int)) = true := decide_eq_true (by omega)
      by_cases h2 : I < 12
      · have q4 : decide ((I : Int) < 12) = true := decide_eq_true (by omega)
        have q4n : decide (I < 12) = true := decide_eq_true h2
        obtain ⟨b, off, rfl, hb, hc⟩ := HX.out (by omega)
        have x0 := hc I (by omega)
        have y0 := hc (I + 1) (by omega)
        have HL1 := Lib.hid (HLW.out (z0 I) (z0 (I + 1)))
        have hok := some_ok (z0 I) (z0 (I + 1)) hR12
        generalize z0 I = x at *
        generalize z0 (I + 1) = y at *
        generalize someE x y R = z at *
        have HOK := Lib.hid hok
        have hbw : b < w.heap.size := by omega
        have HCX : Hid (∀ wx, Below w.heap.size w wx → wx.cell? ⟨b, off + I, none⟩ = some (.int .i64 x) ∧ wx.cell? ⟨b, off + (I + 1), none⟩ = some (.int .i64 y) ∧ b < wx.heap.size) := fun wx hx => ⟨(hx.cell (p := ⟨b, _, none⟩) hbw).trans x0, (hx.cell (p := ⟨b, _, none⟩) hbw).trans y0, Nat.lt_of_lt_of_le hbw hx.size⟩
        have hbo : b < wo.heap.size := Nat.lt_of_lt_of_le hbw hsz
        obtain ⟨U, eU, hU⟩ : ∃ e : Nat, bits BinOp.and IntKind.i64 (x / 1048576) 1 = (e : Int) ∧ e ≤ 1 := ⟨(x / 1048576 % 2).toNat, by rw [i64_and_mask (x / 1048576) 1 (by omega) 1 rfl]; omega, by omega⟩
        obtain ⟨A3, eA⟩ : ∃ A, bits BinOp.and IntKind.i64 (y / 1073741824) 3 = A := ⟨_, rfl⟩
        obtain ⟨A6, eB⟩ : ∃ A, bits BinOp.and IntKind.i64 (x / 4194304) 63 = A := ⟨_, rfl⟩
        obtain ⟨A1, eC⟩ : ∃ A, bits BinOp.and IntKind.i64 (x / 2097152) 1 = A := ⟨_, rfl⟩
        clear hc hok
        go_upto_region 6 with (fail)
        clear x0 y0
        refine wp_region_inv (fun w w' => Below w.heap.size w w') (fun qi_ qv_ _ => qv_ = ([.slice (some ⟨b, off, none⟩) n0 c0, .int .i64 I, .pointer (some ⟨b, off + I, none⟩), .int .i64 x, .slice (some ⟨b, off, none⟩) n0 c0, .int .i64 I, .int .i64 ((I : Int) + 1), .pointer (some ⟨b, off + (I + 1), none⟩), .int .i64 y, .int .i64 R, .int .u64 (wordN R z : Nat), .int .u64 (wordN R z : Nat)] : List Value).getD qi_ undef) (by kernel_rfl) (by kernel_rfl) (fun _ => Below.refl _ _) (fun _ _ _ h1 h2 => below_later h1 h1.size h2) (fun _ _ _ _ _ _ h => h) ?_
        refine inv_cons (fun wx hg hd => ?_) (fun v0 => ?_)
        · have hx := ((Below.refl wo.heap.size wo).drew).trans hg
          clear hd hg
          go_wp2
          exact ⟨_, rfl, Below.refl _ _, rfl⟩
        (try simp only [List.nil_append, Act.put, List.setIfInBounds_toArray, List.set_cons_zero, List.set_cons_succ])
        refine inv_cons (fun wx hg hd => ?_) (fun v1 => ?_)
        · have hx := ((Below.refl wo.heap.size wo).drew).trans hg
          clear hd hg
          go_wp2
          exact ⟨_, rfl, Below.refl _ _, rfl⟩
        (try simp only [List.cons_append, List.nil_append, Act.put, List.setIfInBounds_toArray, List.set_cons_zero, List.set_cons_succ])
        refine inv_cons (fun wx hg hd => ?_) (fun v2 => ?_)
        · have hx := ((Below.refl wo.heap.size wo).drew).trans hg
          (try (have ee : v0 = (.slice (some ⟨b, off, none⟩) n0 c0 : Value) := hd 0 (by simp) (by decide); subst ee))
          (try (have ee : v1 = (.int .i64 I : Value) := hd 1 (by simp) (by decide); subst ee))
          clear hd hg
          go_wp2
          exact ⟨_, rfl, Below.refl _ _, rfl⟩
        (try simp only [List.cons_append, List.nil_append, Act.put, List.setIfInBounds_toArray, List.set_cons_zero, List.set_cons_succ])
        refine inv_cons (fun wx hg hd => ?_) (fun v3 => ?_)
        · have hx := ((Below.refl wo.heap.size wo).drew).trans hg
          (try (have ee : v2 = (.pointer (some ⟨b, off + I, none⟩) : Value) := hd 2 (by simp) (by decide); subst ee))
          clear hd hg
          obtain ⟨x0, y0, x1⟩ := HCX.out _ (HI.out.trans (hx.mono hsz))
          go_wp2
          exact ⟨_, rfl, Below.refl _ _, rfl⟩
        (try simp only [List.cons_append, List.nil_append, Act.put, List.setIfInBounds_toArray, List.set_cons_zero, List.set_cons_succ])
        refine inv_cons (fun wx hg hd => ?_) (fun v4 => ?_)
        · have hx := ((Below.refl wo.heap.size wo).drew).trans hg
          clear hd hg
          go_wp2
          exact ⟨_, rfl, Below.refl _ _, rfl⟩
        (try simp only [List.cons_append, List.nil_append, Act.put, List.setIfInBounds_toArray, List.set_cons_zero, List.set_cons_succ])
        refine inv_cons (fun wx hg hd => ?_) (fun v5 => ?_)
        · have hx := ((Below.refl wo.heap.size wo).drew).trans hg
          clear hd hg
          go_wp2
          exact ⟨_, rfl, Below.refl _ _, rfl⟩
        (try simp only [List.cons_append, List.nil_append, Act.put, List.setIfInBounds_toArray, List.set_cons_zero, List.set_cons_succ])
        refine inv_cons (fun wx hg hd => ?_) (fun v6 => ?_)
        · have hx := ((Below.refl wo.heap.size wo).drew).trans hg
          (try (have ee : v5 = (.int .i64 I : Value) := hd 5 (by simp) (by decide); subst ee))
          clear hd hg
          go_wp2
          exact ⟨_, rfl, Below.refl _ _, rfl⟩
        (try simp only [List.cons_append, List.nil_append, Act.put, List.setIfInBounds_toArray, List.set_cons_zero, List.set_cons_succ])
        refine inv_cons (fun wx hg hd => ?_) (fun v7 => ?_)
        · have hx := ((Below.refl wo.heap.size wo).drew).trans hg
          (try (have ee : v4 = (.slice (some ⟨b, off, none⟩) n0 c0 : Value) := hd 4 (by simp) (by decide); subst ee))
          (try (have ee : v6 = (.int .i64 ((I : Int) + 1) : Value) := hd 6 (by simp) (by decide); subst ee))
          clear hd hg
          go_wp2
          exact ⟨_, rfl, Below.refl _ _, rfl⟩
        (try simp only [List.cons_append, List.nil_append, Act.put, List.setIfInBounds_toArray, List.set_cons_zero, List.set_cons_succ])
        refine inv_cons (fun wx hg hd => ?_) (fun v8 => ?_)
        · have hx := ((Below.refl wo.heap.size wo).drew).trans hg
          (try (have ee : v7 = (.pointer (some ⟨b, off + (I + 1), none⟩) : Value) := hd 7 (by simp) (by decide); subst ee))
          clear hd hg
          obtain ⟨x0, y0, x1⟩ := HCX.out _ (HI.out.trans (hx.mono hsz))
          go_wp2
          exact ⟨_, rfl, Below.refl _ _, rfl⟩
        (try simp only [List.cons_append, List.nil_append, Act.put, List.setIfInBounds_toArray, List.set_cons_zero, List.set_cons_succ])
        refine inv_cons (fun wx hg hd => ?_) (fun v9 => ?_)
        · have hx := ((Below.refl wo.heap.size wo).drew).trans hg
          clear hd hg
          go_wp2
          exact ⟨_, rfl, Below.refl _ _, rfl⟩
        (try simp only [List.cons_append, List.nil_append, Act.put, List.setIfInBounds_toArray, List.set_cons_zero, List.set_cons_succ])
        refine inv_cons (fun wx hg hd => ?_) (fun v10 => ?_)
        · have hx := ((Below.refl wo.heap.size wo).drew).trans hg
          (try (have ee : v3 = (.int .i64 x : Value) := hd 3 (by simp) (by decide); subst ee))
          (try (have ee : v8 = (.int .i64 y : Value) := hd 8 (by simp) (by decide); subst ee))
          (try (have ee : v9 = (.int .i64 R : Value) := hd 9 (by simp) (by decide); subst ee))
          clear hd hg
          go_wp2_with fail
          refine (HL1.out _).mono ?_
          rintro e w' ⟨rfl, hb⟩
          go_wp2
          exact ⟨_, rfl, hb, rfl⟩
        (try simp only [List.cons_append, List.nil_append, Act.put, List.setIfInBounds_toArray, List.set_cons_zero, List.set_cons_succ])
        refine inv_cons (fun wx hg hd => ?_) (fun v11 => ?_)
        · have hx := ((Below.refl wo.heap.size wo).drew).trans hg
          (try (have ee : v10 = (.int .u64 (wordN R z : Nat) : Value) := hd 10 (by simp) (by decide); subst ee))
          clear hd hg
          go_wp2
          exact ⟨_, rfl, Below.refl _ _, rfl⟩
        (try simp only [List.cons_append, List.nil_append, Act.put, List.setIfInBounds_toArray, List.set_cons_zero, List.set_cons_succ])
        refine inv_done (fun wx hg hd => ?_)
        have hx := ((Below.refl wo.heap.size wo).drew).trans hg
        (have ee : v0 = (.slice (some ⟨b, off, none⟩) n0 c0 : Value) := hd 0 (by simp); subst ee)
        (have ee : v1 = (.int .i64 I : Value) := hd 1 (by simp); subst ee)
        (have ee : v2 = (.pointer (some ⟨b, off + I, none⟩) : Value) := hd 2 (by simp); subst ee)
        (have ee : v3 = (.int .i64 x : Value) := hd 3 (by simp); subst ee)
        (have ee : v4 = (.slice (some ⟨b, off, none⟩) n0 c0 : Value) := hd 4 (by simp); subst ee)
        (have ee : v5 = (.int .i64 I : Value) := hd 5 (by simp); subst ee)
        (have ee : v6 = (.int .i64 ((I : Int) + 1) : Value) := hd 6 (by simp); subst ee)
        (have ee : v7 = (.pointer (some ⟨b, off + (I + 1), none⟩) : Value) := hd 7 (by simp); subst ee)
        (have ee : v8 = (.int .i64 y : Value) := hd 8 (by simp); subst ee)
        (have ee : v9 = (.int .i64 R : Value) := hd 9 (by simp); subst ee)
        (have ee : v10 = (.int .u64 (wordN R z : Nat) : Value) := hd 10 (by simp); subst ee)
        (have ee : v11 = (.int .u64 (wordN R z : Nat) : Value) := hd 11 (by simp); subst ee)
        clear hd hg
        (try go_simp)
        have HLx := Lib.hid (own_later HL.out.2.2 hx)
        have HIx := Lib.hid (HI.out.trans (hx.mono hsz))
        have hLl := HL.out.1
        have HLS := Lib.hid HL.out.2.1
        obtain ⟨x0, y0, x1⟩ := HCX.out _ HIx.out
        have hwu : IntKind.i64.wrap ((U : Int) + 1) = (U : Int) + 1 := IntWalk.i64_in _ (by omega)
        clear hx HI HL hbo hbw hb
        go_wp2
        clear x0 y0 x1
        go_loopw [9, 10] (fun tv jv wz => ∃ (q : Nat) (t : E2) (j : Nat), jv = .int .i64 j ∧ j ≤ U + 1 ∧ q ≤ R ∧ R ≤ q + j ∧ tv = .int .u64 (wordN q t : Nat) ∧ Hid (okB q t = true) ∧ Hid (Below wx.heap.size wx wz)) (fun _ j _ => 3 - (intOf j).toNat)
        case atStart => exact ⟨R, z, 0, rfl, by omega, Nat.le_refl _, by omega, rfl, HOK.out, Below.refl _ _⟩
        case round =>
          obtain ⟨q, t, j, rfl, hj, hq1, hq2, rfl, HT, HJ⟩ := hrel
          by_cases hlt : j < U + 1
          · have q5 : decide ((j : Int) < (U : Int) + 1) = true := decide_eq_true (by omega)
            have HWU := Lib.hid (wup_any (wordN q t) (by have := (wordN_lt HT.out).1; omega))
            have hsj := HJ.out.size
            rcases par_word HT.out with ⟨rfl, e1⟩ | ⟨q', rfl, e1, e2, e3⟩
            · rw [e1] at HWU
              clear e1
              generalize hV : wordN 0 t = V at *
              have HVE := Lib.hid hV
              clear hV
              generalize parW V = V2 at *
              go_wp2_with fail
              refine (HWU.out _).mono ?_
              rintro e w2 ⟨rfl, hb2⟩
              have HJ2 := Lib.hid (HJ.out.trans (hb2.mono hsj))
              clear hb2 HJ
              go_wp2
              go_roundw
              case rel => exact ⟨0, t, j + 1, by go_num, by omega, by omega, by omega, by rw [HVE.out], HT.out, HJ2.out⟩
              case measure => simp [intOf]; omega
            · rw [e1, e2] at HWU
              have HT3 := Lib.hid e3
              clear e1 e2 e3
              generalize wordN (q' + 1) t = V at *
              go_wp2_with fail
              refine (HWU.out _).mono ?_
              rintro e w2 ⟨rfl, hb2⟩
              have HJ2 := Lib.hid (HJ.out.trans (hb2.mono hsj))
              clear hb2 HJ
              go_wp2
              go_roundw
              case rel => exact ⟨q', upE t, j + 1, by go_num, by omega, by omega, by omega, rfl, HT3.out, HJ2.out⟩
              case measure => simp [intOf]; omega
          · have q5 : decide ((j : Int) < (U : Int) + 1) = false := decide_eq_false (by omega)
            obtain ⟨wv, rfl⟩ : ∃ wv, wv = wr := ⟨_, rfl⟩
            have hsj := HJ.out.size
            have HIv := Lib.hid (HIx.out.trans (HJ.out.mono HIx.out.size))
            have HLv := Lib.hid (own_later HLx.out HJ.out)
            have hRq : R - q ≤ 2 := by omega
            obtain ⟨e1, e2⟩ := one_spread HT.out hR12 hq1 (by omega)
            have hK : (dsN (R - q) q t).length ≤ 49 := by rw [ds_len]; exact Nat.le_trans (Nat.pow_le_pow_right (by decide) hRq) (by decide)
            have hKS := ds_sized (d := R - q) (k := q) (by omega) HT.out
            rw [show q + (R - q) = R by omega] at hKS
            have hsp := rspread_any (some ⟨wv.heap.size, 0, none⟩) 1 [(wordN q t : Int)] R _ (wv.heap.size + 1) (words_new wv [(wordN q t : Int)] 25) (by simp) (by simp) (in64_cons (by have := (wordN_lt HT.out).1; omega) in64_nil)
            rw [e1, e2] at hsp
            obtain ⟨K, hKe⟩ : ∃ K, dsN (R - q) q t = K := ⟨_, rfl⟩
            rw [hKe] at hsp hK hKS
            obtain ⟨KL, hKL⟩ : ∃ KL, K.length = KL := ⟨_, rfl⟩
            have HSP : Hid (Calls Tryz.prog 37 #[.slice (some ⟨wv.heap.size, 0, none⟩) 1 1, .int .i64 R] (wv.alloc (.cells #[.int .u64 (wordN q t : Nat)] 25)) fun e w' => ∃ ao c, e = .returned (.tuple #[.slice ao KL c, .int .i64 0]) ∧ w'.ownsRow wv.heap.size 25 1 (.slice ao KL c) KL (uV K) ∧ Below wv.heap.size wv w') := by
              refine hsp.mono ?_
              rintro e w' ⟨ao, c, rfl, ho, hb⟩
              rw [hKL] at ho ⊢
              exact ⟨ao, c, rfl, own_base ho (by simp), below_alloc hb⟩
            have HKS := Lib.hid hKS
            have HKL := Lib.hid hKL
            rw [hKL] at hK
            generalize wordN q t = V at *
            clear hsp hKe e1 e2 hKS hKL HT HJ HLx HIx
            go_wp2_with fail
            refine HSP.out.mono ?_
            rintro e w5 ⟨so, sc, rfl, hs5, hb5⟩
            have HI5 := Lib.hid (HIv.out.trans (hb5.mono HIv.out.size))
            have HL5 := Lib.hid (own_later HLv.out hb5)
            have HS5 := Lib.hid hs5
            have HAP5 : Hid (Apart (.slice lo m lc) (.slice so KL sc)) := fun k hk1 hk2 => by
              have h1 := HLv.out.lt_size k hk1
              have h2 := (hs5.lt k hk2).1
              omega
            have hvs : w.heap.size ≤ wv.heap.size := HIv.out.size
            clear hs5 hb5 HIv HLv HSP hsj
            go_wp2
            go_loopw [5, 15] (fun lv kv wz => ∃ (L2 : List Int) (m2 k : Nat) (lo2 : Option Addr) (lc2 : Nat), k ≤ KL ∧ m2 ≤ m + k ∧ kv = .int .i64 k ∧ lv = .slice lo2 m2 lc2 ∧ Hid (L2.length = m2 ∧ Sized R L2 ∧ wz.ownsRow w.heap.size 25 1 (.slice lo2 m2 lc2) m2 (uV L2)) ∧ Hid (wz.ownsRow wv.heap.size 25 1 (.slice so KL sc) KL (uV K)) ∧ Hid (Apart (.slice lo2 m2 lc2) (.slice so KL sc)) ∧ Hid (Below w.heap.size w wz)) (fun _ k _ => KL - (intOf k).toNat)
            case atStart => exact ⟨L, m, 0, lo, lc, by omega, by omega, rfl, rfl, ⟨hLl, HLS.out, HL5.out⟩, HS5.out, HAP5.out, HI5.out⟩
            case round =>
              obtain ⟨L2, m2, k, lo2, lc2, hk, hm2, rfl, rfl, HL2, HS2, HAP, HB2⟩ := hrel
              obtain ⟨wz, rfl⟩ : ∃ wz, wz = wr := ⟨_, rfl⟩
              obtain ⟨x0, y0, x1⟩ := HCX.out _ HB2.out
              by_cases hlt3 : k < KL
              · have q6 : decide ((k : Int) < (KL : Int)) = true := decide_eq_true (by omega)
                obtain ⟨b2, off2, rfl, hb2, hc2⟩ := words_own HKL.out.symm HS2.out (by rw [HKL.out]; omega)
                have c2 := hc2 k (by rw [HKL.out]; exact hlt3)
                have HSV := Lib.hid (HKS.out _ (getD_mem (l := K) (j := k) (by rw [HKL.out]; exact hlt3)))
                generalize K.getD k 0 = v at *
                clear hc2
                have key : (A3 != 0) = true ∨ ((A3 != 0) = false ∧ ((k : Int) != A6) = true) ∨ ((A3 != 0) = false ∧ ((k : Int) != A6) = false) := by
                  cases (A3 != 0) <;> cases ((k : Int) != A6) <;> simp
                rcases key with p1 | ⟨p1, p2⟩ | ⟨p1, p2⟩
                · have hown := HL2.out.2.2
                  have HBA := Lib.hid (HB2.out.alloc HB2.out.size (.cells #[.int .u64 v] 25))
                  have hbs : w.heap.size ≤ (wz.alloc (.cells #[.int .u64 v] 25)).heap.size := HBA.out.size
                  go_wp2_with (at_builtin; refine wpList_append_own_at _ rfl (.tmp 94) (.tmp 99) 22 rfl w.heap.size 25 i0 (.int .u64 0) 1 8 Tryz.underlying22 hi hz0 hz1 hz2 rfl (by decide) _ m2 (uV L2) rfl (hown.alloc _) ⟨wz.heap.size, 0, none⟩ 1 1 [.int .u64 v] rfl rfl (cells_new _ _ _ _ rfl) (by simp [Value.oneCell']) (by unfold maxLen; omega) (by omega) hbs ?_; intro v3 w3 hown1 hgrow _ hat)
                  obtain ⟨lo3, lc3, rfl, -⟩ := own_form hown1
                  have HO3 : Hid ((L2 ++ [v]).length = m2 + 1 ∧ Sized R (L2 ++ [v]) ∧ w3.ownsRow w.heap.size 25 1 (.slice lo3 (m2 + 1) lc3) (m2 + 1) (uV (L2 ++ [v]))) := ⟨by rw [List.length_append, HL2.out.1]; rfl, fun u hu => (List.mem_append.1 hu).elim (HL2.out.2.1 u) (fun h => by rw [List.mem_singleton.1 h]; exact HSV.out), by rw [uV_snoc]; exact hown1⟩
                  have HB3 := Lib.hid (below_append HBA.out (hown.alloc (.cells #[.int .u64 v] 25)) hbs hgrow)
                  have HS3 := Lib.hid ((HS2.out.alloc (.cells #[.int .u64 v] 25)).kept hgrow HAP.out.symm.ne)
                  have HA3 := Lib.hid (HAP.out.step hat (fun k hk => (HS2.out.alloc (.cells #[.int .u64 v] 25)).lt_size k hk))
                  clear hown hown1 hgrow hbs HBA hat
                  go_roundw
                  case rel => exact ⟨L2 ++ [v], m2 + 1, k + 1, lo3, lc3, by omega, by omega, by go_num, rfl, HO3.out, HS3.out, HA3.out, HB3.out⟩
                  case measure => simp [intOf]; omega
                · have hown := HL2.out.2.2
                  have HBA := Lib.hid (HB2.out.alloc HB2.out.size (.cells #[.int .u64 v] 25))
                  have hbs : w.heap.size ≤ (wz.alloc (.cells #[.int .u64 v] 25)).heap.size := HBA.out.size
                  go_wp2_with (at_builtin; refine wpList_append_own_at _ rfl (.tmp 94) (.tmp 99) 22 rfl w.heap.size 25 i0 (.int .u64 0) 1 8 Tryz.underlying22 hi hz0 hz1 hz2 rfl (by decide) _ m2 (uV L2) rfl (hown.alloc _) ⟨wz.heap.size, 0, none⟩ 1 1 [.int .u64 v] rfl rfl (cells_new _ _ _ _ rfl) (by simp [Value.oneCell']) (by unfold maxLen; omega) (by omega) hbs ?_; intro v3 w3 hown1 hgrow _ hat)
                  obtain ⟨lo3, lc3, rfl, -⟩ := own_form hown1
                  have HO3 : Hid ((L2 ++ [v]).length = m2 + 1 ∧ Sized R (L2 ++ [v]) ∧ w3.ownsRow w.heap.size 25 1 (.slice lo3 (m2 + 1) lc3) (m2 + 1) (uV (L2 ++ [v]))) := ⟨by rw [List.length_append, HL2.out.1]; rfl, fun u hu => (List.mem_append.1 hu).elim (HL2.out.2.1 u) (fun h => by rw [List.mem_singleton.1 h]; exact HSV.out), by rw [uV_snoc]; exact hown1⟩
                  have HB3 := Lib.hid (below_append HBA.out (hown.alloc (.cells #[.int .u64 v] 25)) hbs hgrow)
                  have HS3 := Lib.hid ((HS2.out.alloc (.cells #[.int .u64 v] 25)).kept hgrow HAP.out.symm.ne)
                  have HA3 := Lib.hid (HAP.out.step hat (fun k hk => (HS2.out.alloc (.cells #[.int .u64 v] 25)).lt_size k hk))
                  clear hown hown1 hgrow hbs HBA hat
                  go_roundw
                  case rel => exact ⟨L2 ++ [v], m2 + 1, k + 1, lo3, lc3, by omega, by omega, by go_num, rfl, HO3.out, HS3.out, HA3.out, HB3.out⟩
                  case measure => simp [intOf]; omega
                · go_wp2
                  go_roundw
                  case rel => exact ⟨L2, m2, k + 1, lo2, lc2, by omega, by omega, by go_num, rfl, HL2.out, HS2.out, HAP.out, HB2.out⟩
                  case measure => simp [intOf]; omega
              · obtain rfl : k = KL := by omega
                have q6 : decide ((k : Int) < (k : Int)) = false := decide_eq_false (by omega)
                have HF2 := HL2.out
                have hIw : IntKind.i64.wrap ((I : Int) + 2) = ((I + 2 : Nat) : Int) := by rw [show (I : Int) + 2 = ((I + 2 : Nat) : Int) by omega]; exact IntWalk.i64_in _ (by omega)
                have key : (A1 == 1) = true ∨ (A1 == 1) = false := by cases (A1 == 1) <;> simp
                rcases key with p1 | p1
                · have hown := HL2.out.2.2
                  have HBA := Lib.hid (HB2.out.alloc HB2.out.size (.cells #[.int .u64 (wordN R z : Nat)] 25))
                  have hbs : w.heap.size ≤ (wz.alloc (.cells #[.int .u64 (wordN R z : Nat)] 25)).heap.size := HBA.out.size
                  go_wp2_with (at_builtin; refine wpList_append_own_at _ rfl (.tmp 108) (.tmp 110) 22 rfl w.heap.size 25 i0 (.int .u64 0) 1 8 Tryz.underlying22 hi hz0 hz1 hz2 rfl (by decide) _ m2 (uV L2) rfl (hown.alloc _) ⟨wz.heap.size, 0, none⟩ 1 1 [.int .u64 (wordN R z : Nat)] rfl rfl (cells_new _ _ _ _ rfl) (by simp [Value.oneCell']) (by unfold maxLen; omega) (by omega) hbs ?_; intro v3 w3 hown1 hgrow _ hat)
                  obtain ⟨lo3, lc3, rfl, -⟩ := own_form hown1
                  have HO3 : Hid ((L2 ++ [(wordN R z : Int)]).length = m2 + 1 ∧ Sized R (L2 ++ [(wordN R z : Int)]) ∧ w3.ownsRow w.heap.size 25 1 (.slice lo3 (m2 + 1) lc3) (m2 + 1) (uV (L2 ++ [(wordN R z : Int)]))) := ⟨by rw [List.length_append, HL2.out.1]; rfl, fun u hu => (List.mem_append.1 hu).elim (HL2.out.2.1 u) (fun h => by rw [List.mem_singleton.1 h]; exact ⟨z, HOK.out, rfl⟩), by rw [uV_snoc]; exact hown1⟩
                  have HB3 := Lib.hid (below_append HBA.out (hown.alloc (.cells #[.int .u64 (wordN R z : Nat)] 25)) hbs hgrow)
                  clear hown hown1 hgrow hbs HBA hat
                  go_roundw
                  case rel => exact ⟨L2 ++ [(wordN R z : Int)], m2 + 1, I + 2, lo3, lc3, by omega, by omega, by go_num, rfl, HO3.out, HB3.out⟩
                  case measure => simp [intOf]; omega
                · go_wp2
                  go_roundw
                  case rel => exact ⟨L2, m2, I + 2, lo2, lc2, by omega, by omega, by go_num, rfl, HL2.out, HB2.out⟩
                  case measure => simp [intOf]; omega
      · have q4 : decide ((I : Int) < 12) = false := decide_eq_false (by omega)
        have q4n : decide (I < 12) = false := decide_eq_false h2
        have HF : Hid (∃ (L' : List Int) (m' : Nat) (ao : Option Addr) (c : Nat), Ending.returned (.slice lo m lc) = .returned (.slice ao m' c) ∧ L'.length = m' ∧ m' ≤ 400 ∧ Sized R L' ∧ wo.ownsRow w.heap.size 25 1 (.slice ao m' c) m' (uV L') ∧ Below w.heap.size w wo) := ⟨L, m, lo, lc, rfl, HL.out.1, by omega, HL.out.2.1, HL.out.2.2, HI.out⟩
        go_wp2
        go_ret
        exact HF.out
    · have q3 : decide ((I : Int) + 1 < (n0 : Int)) = false := decide_eq_false (by omega)
      have HF : Hid (∃ (L' : List Int) (m' : Nat) (ao : Option Addr) (c : Nat), Ending.returned (.slice lo m lc) = .returned (.slice ao m' c) ∧ L'.length = m' ∧ m' ≤ 400 ∧ Sized R L' ∧ wo.ownsRow w.heap.size 25 1 (.slice ao m' c) m' (uV L') ∧ Below w.heap.size w wo) := ⟨L, m, lo, lc, rfl, HL.out.1, by omega, HL.out.2.1, HL.out.2.2, HI.out⟩
      go_wp2
      go_ret
      exact HF.out
end Go.Proofs.YtkjfdaleamonaaaGreat
/- Plain laws of packing: what packed cells cover; they are free; no seven brothers; how many they are. -/
namespace Go.Proofs.YtkjfdaleamonaaaGreat
open Go.RowKit Go.Lib Wd

theorem kid_of {r : Nat} {y : E2} (hy : okB (r + 1 : Nat) y = true) : (wordN (r + 1) y : Int) ∈ kidsW r (wordN r (upE y)) := by
  have hr : r + 1 ≤ 12 := (okB_parts hy).1
  obtain ⟨-, p, hp, e, hk⟩ := word_parts (r := r) ⟨y, hy, rfl⟩
  obtain ⟨d, hd, e2⟩ := (kidsW_mem hr _).1 hk
  have e3 : y = downE p d := (word_inj hy (kid_ok hp hr hd) (by omega)).2
  rw [e3, upE_down p hd, ← e3]
  exact hk
theorem pack_cov : ∀ (r : Nat) (A : List Int), Sized r A → ∀ y, okB r y = true → ((∃ k, k ≤ r ∧ (wordN k (upN (r - k) y) : Int) ∈ packN r A) ↔ (wordN r y : Int) ∈ A)
  | 0, A, _, y, hy => by
    constructor
    · rintro ⟨k, hk, hm⟩
      obtain rfl : k = 0 := by omega
      exact hm
    · intro h; exact ⟨0, Nat.le_refl _, h⟩
  | r + 1, A, hs, y, hy => by
    have hr : r + 1 ≤ 12 := (okB_parts hy).1
    have hu := up_ok hy
    have hn := next_sized hs
    have ih := pack_cov r (nextL A) hn (upE y) hu
    have hkid := kid_of hy
    have hfull : fullB A (wordN (r + 1) y : Int) = true ↔ (wordN r (upE y) : Int) ∈ nextL A := by
      rw [full_iff hr hu hkid, next_mem hr hs]
      constructor
      · intro h; exact ⟨_, hu, rfl, h⟩
      · rintro ⟨p, hp, e, h⟩
        have e3 : upE y = p := (word_inj hu hp (by omega)).2
        rw [e3]; exact h
    show (∃ k, k ≤ r + 1 ∧ _ ∈ doneL A ++ packN r (nextL A)) ↔ _
    constructor
    · rintro ⟨k, hk, hm⟩
      rcases List.mem_append.1 hm with h1 | h1
      · have h2 := (List.mem_filter.1 h1).1
        have ho : okB k (upN (r + 1 - k) y) = true := upN_ok _ (by rw [show k + (r + 1 - k) = r + 1 by omega]; exact hy)
        obtain rfl : k = r + 1 := sized_unlike ⟨_, ho, rfl⟩ (hs _ h2)
        rw [Nat.sub_self] at h2
        exact h2
      · have ho : okB k (upN (r + 1 - k) y) = true := upN_ok _ (by rw [show k + (r + 1 - k) = r + 1 by omega]; exact hy)
        obtain ⟨k', hk', hz⟩ := packN_sized r _ hn _ h1
        obtain rfl : k = k' := sized_unlike ⟨_, ho, rfl⟩ hz
        rw [show r + 1 - k = (r - k) + 1 by omega, ← upN_one] at h1
        have h2 := hfull.2 (ih.1 ⟨k, hk', h1⟩)
        exact (full_iff hr hu hkid).1 h2 _ hkid
    · intro hA
      by_cases hf : fullB A (wordN (r + 1) y : Int) = true
      · obtain ⟨k, hk, h1⟩ := ih.2 (hfull.1 hf)
        refine ⟨k, by omega, List.mem_append.2 (.inr ?_)⟩
        rw [show r + 1 - k = (r - k) + 1 by omega, ← upN_one]
        exact h1
      · refine ⟨r + 1, Nat.le_refl _, List.mem_append.2 (.inl (List.mem_filter.2 ⟨?_, ?_⟩))⟩
        · rw [Nat.sub_self]; exact hA
        · rw [Nat.sub_self]
          show (!fullB A (wordN (r + 1) y : Int)) = true
          rw [Bool.eq_false_iff.2 hf]; rfl
theorem base_anc {A : List Int} (hs : Sized 0 A) {k : Nat} {x : E2} {j : Nat} (hx : okB k x = true) (hj : j < k) (h1 : (wordN k x : Int) ∈ A) : False := by
  have h2 : k = 0 := sized_unlike ⟨x, hx, rfl⟩ (hs _ h1)
  omega
theorem pack_anc (r : Nat) : ∀ (A : List Int), Sized r A → ∀ (k : Nat) (x : E2) (j : Nat), okB k x = true → j < k → (wordN k x : Int) ∈ packN r A → (wordN j (upN (k - j) x) : Int) ∈ packN r A → False := by
  induction r with
  | zero =>
    intro A hs k x j hx hj h1 _
    exact base_anc hs hx hj h1
  | succ r ih =>
    intro A hs k x j hx hj h1 h2
    have hn := next_sized hs
    have hk12 := (okB_parts hx).1
    have hoj : okB j (upN (k - j) x) = true := upN_ok _ (by rw [show j + (k - j) = k by omega]; exact hx)
    rcases List.mem_append.1 h1 with h3 | h3
    · have h4 := List.mem_filter.1 h3
      obtain rfl : k = r + 1 := sized_unlike ⟨_, hx, rfl⟩ (hs _ h4.1)
      rcases List.mem_append.1 h2 with h5 | h5
      · have := sized_unlike ⟨_, hoj, rfl⟩ (hs _ (List.mem_filter.1 h5).1)
        omega
      · have hu := up_ok hx
        rw [show r + 1 - j = (r - j) + 1 by omega, ← upN_one] at h5
        have h6 := (pack_cov r (nextL A) hn (upE x) hu).1 ⟨j, by omega, h5⟩
        obtain ⟨p, hp, e, h7⟩ := (next_mem hk12 hs _).1 h6
        have e3 : upE x = p := (word_inj hu hp (by omega)).2
        have h8 := (full_iff hk12 hu (kid_of hx)).2 (by rw [e3]; exact h7)
        rw [h8] at h4
        exact absurd h4.2 (by simp)
    · obtain ⟨k', hk', hz⟩ := packN_sized r _ hn _ h3
      obtain rfl : k = k' := sized_unlike ⟨_, hx, rfl⟩ hz
      rcases List.mem_append.1 h2 with h5 | h5
      · have := sized_unlike ⟨_, hoj, rfl⟩ (hs _ (List.mem_filter.1 h5).1)
        omega
      · exact ih (nextL A) hn k x j hx hj h3 h5
theorem pack_bro (r : Nat) : ∀ (A : List Int), Sized r A → ∀ (q : Nat) (z : E2), q + 1 ≤ 12 → okB q z = true → ¬ ∀ u ∈ kidsW q (wordN q z), u ∈ packN r A := by
  induction r with
  | zero =>
    intro A hs q z hq hz hall
    exact base_anc (k := q + 1) (j := 0) hs (kid_ok hz hq (show 0 < 7 by omega)) (by omega) (hall (wordN (q + 1) (downE z 0) : Int) ((kidsW_mem hq _).2 ⟨0, by omega, rfl⟩))
  | succ r ih =>
    intro A hs q z hq hz hall
    have hn := next_sized hs
    by_cases e : q + 1 = r + 1
    · obtain rfl : q = r := by omega
      have hd : ∀ u ∈ kidsW q (wordN q z), u ∈ doneL A := fun u hu => by
        obtain ⟨d, hd, rfl⟩ := (kidsW_mem hq _).1 hu
        rcases List.mem_append.1 (hall _ hu) with h | h
        · exact h
        · obtain ⟨k', hk', hz'⟩ := packN_sized q _ hn _ h
          have := sized_unlike ⟨_, kid_ok hz hq hd, rfl⟩ hz'
          omega
      have h0 : (wordN (q + 1) (downE z 0) : Int) ∈ kidsW q (wordN q z) := (kidsW_mem hq _).2 ⟨0, by omega, rfl⟩
      have h1 := List.mem_filter.1 (hd _ h0)
      have h2 := (full_iff hq hz h0).2 fun u hu => (List.mem_filter.1 (hd u hu)).1
      rw [h2] at h1
      exact absurd h1.2 (by simp)
    · refine ih (nextL A) hn q z hq hz fun u hu => ?_
      rcases List.mem_append.1 (hall _ hu) with h | h
      · obtain ⟨d, hd, rfl⟩ := (kidsW_mem hq _).1 hu
        have := sized_unlike ⟨_, kid_ok hz hq hd, rfl⟩ (hs _ (List.mem_filter.1 h).1)
        omega
      · exact h
end Go.Proofs.YtkjfdaleamonaaaGreat
/- Plain laws on packF: covers, free, how many, spread. -/
namespace Go.Proofs.YtkjfdaleamonaaaGreat
open Go.RowKit Go.Lib Wd

theorem dsV_word' {R k : Nat} {z : E2} (hz : okB k z = true) : dsV R (wordN k z : Int) = dsN (R - k) k z := by
  obtain ⟨a, b, c⟩ := word_cell hz
  unfold dsV
  rw [Int.toNat_natCast, b, c]

theorem cmp_pack {R : Nat} {l : List Int} (hs : Sized R l) (hl : l.length ≤ 20000) : cmpE l = 0 ∧ cmpL l = packF R l := by
  obtain ⟨g1, g2, g3⟩ := sized_cmp hs hl
  refine ⟨g1, ?_⟩
  by_cases h : l = []
  · rw [g3 h, h]
    unfold packF
    rw [setF_nil, packN_nil, setF_nil]
  · exact g2 h
theorem pk_sized {R : Nat} {l : List Int} (hs : Sized R l) {v : Int} (hv : v ∈ packF R l) : ∃ k : Nat, k ≤ R ∧ ∃ z, okB k z = true ∧ v = (wordN k z : Int) :=
  packN_sized R (setF l) (sized_set hs) v ((setF_mem _ _).1 hv)
theorem pk_cov {R : Nat} {l : List Int} (hs : Sized R l) {y : E2} (hy : okB R y = true) : (∃ v ∈ packF R l, (wordN R y : Int) ∈ dsV R v) ↔ (wordN R y : Int) ∈ l := by
  have hR := (okB_parts hy).1
  rw [← setF_mem l, ← pack_cov R (setF l) (sized_set hs) y hy]
  constructor
  · rintro ⟨v, hv, hm⟩
    obtain ⟨k, hk, x, hx, rfl⟩ := pk_sized hs hv
    rw [dsV_word' hx] at hm
    obtain ⟨y', hy', hu, e⟩ := (ds_mem (R - k) k x (by omega) hx _).1 hm
    have e3 : y = y' := (word_inj hy hy' (by rw [show k + (R - k) = R by omega] at e ⊢; omega)).2
    rw [← e3] at hu
    refine ⟨k, hk, ?_⟩
    rw [hu]
    exact (setF_mem _ _).1 hv
  · rintro ⟨k, hk, hm⟩
    have ho : okB k (upN (R - k) y) = true := upN_ok _ (by rw [show k + (R - k) = R by omega]; exact hy)
    refine ⟨_, (setF_mem _ _).2 hm, ?_⟩
    rw [dsV_word' ho]
    refine (ds_mem (R - k) k _ (by omega) ho _).2 ⟨y, by rw [show k + (R - k) = R by omega]; exact hy, rfl, by rw [show k + (R - k) = R by omega]⟩
theorem pk_free {R : Nat} {l : List Int} (hs : Sized R l) : freeB (packF R l) = true := by
  unfold freeB
  have hw : allW (packF R l) = true := List.all_eq_true.2 fun v hv => by
    obtain ⟨k, -, z, hz, rfl⟩ := pk_sized hs hv
    exact (word_cell hz).1
  rw [hw, decide_eq_true (show (packF R l).Nodup from (setF_up _).nodup)]
  simp only [Bool.true_and]
  rw [List.all_eq_true]
  intro v hv
  rw [List.all_eq_true]
  intro j hj
  have hj := List.mem_range.1 hj
  obtain ⟨k, hk, z, hz, rfl⟩ := pk_sized hs hv
  obtain ⟨a, b, c⟩ := word_cell hz
  rw [Int.toNat_natCast, b] at hj
  have : ancW (wordN k z : Int) j ∉ packF R l := fun hm => by
    unfold ancW at hm
    rw [Int.toNat_natCast, b, c] at hm
    exact pack_anc R (setF l) (sized_set hs) k z j hz hj ((setF_mem _ _).1 hv) ((setF_mem _ _).1 hm)
  simpa using this
theorem pk_apart {R : Nat} {l : List Int} (hs : Sized R l) (hR : R ≤ 12) {v u : Int} (hv : v ∈ packF R l) (hu : u ∈ packF R l) (hne : v ≠ u) {t : Int} (h1 : t ∈ dsV R v) (h2 : t ∈ dsV R u) : False := by
  obtain ⟨k, hk, x, hx, rfl⟩ := pk_sized hs hv
  obtain ⟨j, hj, y, hy, rfl⟩ := pk_sized hs hu
  rw [dsV_word' hx] at h1
  rw [dsV_word' hy] at h2
  obtain ⟨a, ha, ea, e1⟩ := (ds_mem (R - k) k x (by omega) hx _).1 h1
  obtain ⟨b, hb, eb, e2⟩ := (ds_mem (R - j) j y (by omega) hy _).1 h2
  rw [show k + (R - k) = R by omega] at ha e1
  rw [show j + (R - j) = R by omega] at hb e2
  have e3 : a = b := (word_inj ha hb (by omega)).2
  rw [← e3] at eb
  have key : ∀ (p q : Nat) (s t : E2), p < q → q ≤ R → okB q t = true → upN (R - p) a = s → upN (R - q) a = t → (wordN p s : Int) ∈ packF R l → (wordN q t : Int) ∈ packF R l → False := fun p q s t hpq hqR ht es et m1 m2 => by
    refine pack_anc R (setF l) (sized_set hs) q t p ht hpq ((setF_mem _ _).1 m2) ?_
    rw [← et, upN_add, show (R - q) + (q - p) = R - p by omega, es]
    exact (setF_mem _ _).1 m1
  rcases Nat.lt_trichotomy k j with h | h | h
  · exact key k j x y h hj hy ea eb hv hu
  · subst h
    exact hne (by rw [← ea, ← eb])
  · exact key j k y x h hk hx eb ea hu hv
theorem flat_len (R : Nat) : ∀ l : List Int, (l.flatMap (dsV R)).length = sumS R l
  | [] => rfl
  | v :: l => by
    rw [List.flatMap_cons, List.length_append, flat_len R l]
    unfold dsV
    rw [ds_len]; rfl
theorem len_perm {a b : List Int} (ha : a.Nodup) (hb : b.Nodup) (h : ∀ x, x ∈ a ↔ x ∈ b) : a.length = b.length := by
  refine List.Perm.length_eq (List.perm_iff_count.2 fun x => ?_)
  rw [ha.count, hb.count]
  simp only [h]
theorem pk_mem {R : Nat} {l : List Int} (hs : Sized R l) (hR : R ≤ 12) (t : Int) : t ∈ (packF R l).flatMap (dsV R) ↔ t ∈ l := by
  rw [List.mem_flatMap]
  constructor
  · rintro ⟨v, hv, ht⟩
    obtain ⟨k, hk, x, hx, rfl⟩ := pk_sized hs hv
    have ht2 := ht
    rw [dsV_word' hx] at ht2
    obtain ⟨a, ha, -, e1⟩ := (ds_mem (R - k) k x (by omega) hx _).1 ht2
    rw [show k + (R - k) = R by omega] at ha e1
    subst e1
    exact (pk_cov hs ha).1 ⟨_, hv, ht⟩
  · intro ht
    obtain ⟨y, hy, rfl⟩ := hs t ht
    exact (pk_cov hs hy).2 ht
theorem pk_sum {R : Nat} {l : List Int} (hs : Sized R l) (hR : R ≤ 12) : sumS R (packF R l) = (setF l).length := by
  rw [← flat_len]
  refine len_perm ?_ (setF_up l).nodup fun t => by rw [pk_mem hs hR, setF_mem]
  refine List.nodup_iff_pairwise_ne.2 (List.pairwise_flatMap.2 ⟨fun v hv => ?_, ?_⟩)
  · obtain ⟨k, hk, x, hx, rfl⟩ := pk_sized hs hv
    rw [dsV_word' hx]
    exact List.nodup_iff_pairwise_ne.1 (ds_up (R - k) k x (by omega) hx).nodup
  · refine (List.nodup_iff_pairwise_ne.1 (setF_up (packN R (setF l))).nodup).imp_of_mem fun {a b} ha hb hab x hx y hy e => ?_
    subst e
    exact pk_apart hs hR ha hb hab hx hy
theorem pk_sz {R : Nat} {l m : List Int} (hR : R ≤ 12) (hv : ∀ v ∈ m, ∃ k : Nat, k ≤ R ∧ ∃ z, okB k z = true ∧ v = (wordN k z : Int)) (hs : sumS R m ≤ 20000) : szE m R = 0 ∧ szN m R = (sumS R m : Int) ∧ sprE m R = 0 ∧ sprL m R = setF (m.flatMap (dsV R)) := by
  have ha : allW m = true := List.all_eq_true.2 fun v h => by
    obtain ⟨k, -, z, hz, rfl⟩ := hv v h
    exact (word_cell hz).1
  have hb : m.any (fun v => decide ((R : Int) < (rW v.toNat : Int))) = false := by
    rw [List.any_eq_false]
    intro v h
    obtain ⟨k, hk, z, hz, rfl⟩ := hv v h
    rw [Int.toNat_natCast, (word_cell hz).2.1, decide_eq_true_eq]
    omega
  obtain ⟨e1, e2⟩ := sz_ok ha hb hR (by omega)
  have e3 : sprE m R = 0 := by unfold sprE; rw [e1, if_pos rfl, Int.toNat_natCast, if_neg (by omega)]
  exact ⟨e1, e2, e3, by unfold sprL; rw [e3, if_pos rfl, Int.toNat_natCast]⟩
theorem pk_spread {R : Nat} {l : List Int} (hs : Sized R l) (hR : R ≤ 12) (hl : l.length ≤ 20000) : szE (packF R l) R = 0 ∧ szN (packF R l) R = ((setF l).length : Int) ∧ sprE (packF R l) R = 0 ∧ sprL (packF R l) R = setF l := by
  have h1 := setF_length l
  obtain ⟨e1, e2, e3, e4⟩ := pk_sz (l := l) hR (fun v hv => pk_sized hs hv) (by rw [pk_sum hs hR]; omega)
  rw [pk_sum hs hR] at e2
  refine ⟨e1, e2, e3, ?_⟩
  rw [e4]
  exact (setF_up _).ext (setF_up _) fun t => by rw [setF_mem, setF_mem, pk_mem hs hR]
end Go.Proofs.YtkjfdaleamonaaaGreat
