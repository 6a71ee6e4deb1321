/- The contract of cells.Check. -/
import Derived.Test.YtkjfdaleamonaaaNcA
import Derived.Test.YtkjfdaleamonaaaNcR
namespace Go.Proofs.Ytkjfdaleamonaaa
open Go.RowKit Go.Lib Wd

/-- Numbers of 64 bits. -/
def In64 (l : List Int) : Prop := ∀ v ∈ l, 0 ≤ v ∧ v < 18446744073709551616
theorem drop_w (l : List Int) {k : Nat} (h : k < l.length) : l.drop k = l.getD k 0 :: l.drop (k + 1) := by
  rw [List.drop_eq_getElem_cons h, List.getD_eq_getElem?_getD, List.getElem?_eq_getElem h]
  rfl
theorem chk_step (r : Int) (l : List Int) {k : Nat} (h : k < l.length) : chkF r (l.drop k) = if isW (l.getD k 0).toNat = true then (if (rW (l.getD k 0).toNat : Int) = r then chkF r (l.drop (k + 1)) else 8) else 5 := by
  rw [drop_w l h]
  rfl
set_option maxRecDepth 100000 in
set_option maxHeartbeats 4000000 in
theorem check_any (ao : Option Addr) (c : Nat) (l : List Int) (r : Int) (w : World) (B : Nat) (h : WordsAt w B ao l) (hB : B ≤ w.heap.size) (hn : l.length ≤ 1000000000) (h64 : In64 l) :
    Calls Try.prog 10 #[.slice ao l.length c, .int .i64 r] w fun e w' => e = .returned (.int .i64 (chkF r l)) ∧ Below w.heap.size w w' := by
  obtain ⟨n, hnn⟩ : ∃ n, l.length = n := ⟨_, rfl⟩
  have HN := Lib.hid hnn
  have HW := Lib.hid h
  have H64 : Hid (∀ k, k < n → 0 ≤ l.getD k 0 ∧ l.getD k 0 < 18446744073709551616) := fun k hk => h64 _ (getD_mem (by rw [hnn]; exact hk))
  have HST : Hid (∀ k, k < n → chkF r (l.drop k) = if isW (l.getD k 0).toNat = true then (if (rW (l.getD k 0).toNat : Int) = r then chkF r (l.drop (k + 1)) else 8) else 5) := fun k hk => chk_step r l (by rw [hnn]; exact hk)
  have HEN : Hid (chkF r (l.drop n) = 0) := by show _ = _; rw [← hnn, List.drop_length]; rfl
  have HS0 : Hid (chkF r l = chkF r (l.drop 0)) := rfl
  rw [hnn] at hn ⊢
  generalize chkF r l = E at *
  clear hnn h h64
  go_enter Try.func10, Try.ntmps10
  go_wp2
  go_loopw [9] (fun i wr => ∃ k : Nat, k ≤ n ∧ i = .int .i64 k ∧ Hid (E = chkF r (l.drop k)) ∧ Hid (Below w.heap.size w wr ∧ True)) (fun i _ => n - (intOf i).toNat)
  case atStart => exact ⟨0, by omega, rfl, HS0.out, Below.refl _ _, trivial⟩
  case round =>
    obtain ⟨k, hk, rfl, HE, hbi, -⟩ := hrel
    have HBI := Lib.hid hbi
    clear hbi
    by_cases hlt : k < n
    · obtain ⟨g, off, rfl, hg, hc⟩ := (HW.out.below HBI.out hB) (by rw [HN.out]; omega)
      have c0 := hc k (by rw [HN.out]; exact hlt)
      obtain ⟨v1, v2⟩ := H64.out k hlt
      have hs := HST.out k hlt
      generalize l.getD k 0 = v at *
      obtain ⟨u, rfl⟩ : ∃ u : Nat, v = u := ⟨v.toNat, by omega⟩
      rw [Int.toNat_natCast] at hs
      have HR := Lib.hid (ires_any u (by omega))
      have hgw : g < wr.heap.size := by have := HBI.out.size; omega
      clear hc
      by_cases hW : isW u = true
      · have e1 : resW u = (rW u : Int) := by unfold resW; rw [if_pos hW]
        rw [e1] at HR
        rw [if_pos hW] at hs
        by_cases hr : (rW u : Int) = r
        · rw [if_pos hr] at hs
          rw [hr] at HR
          have q1 : (r == -1) = false := by simp; omega
          have HE2 : Hid (E = chkF r (l.drop (k + 1))) := by show _ = _; rw [HE.out, hs]
          clear hs e1 hW hr HE
          go_wp2_with fail
          refine (HR.out _).mono ?_
          rintro e w2 ⟨rfl, hb2⟩
          have HB2 := Lib.hid (HBI.out.trans (hb2.mono HBI.out.size))
          clear hb2
          go_wp2
          go_roundw
          case rel => exact ⟨k + 1, by omega, by go_num, HE2.out, HB2.out, trivial⟩
          case measure => simp [intOf]; omega
        · rw [if_neg hr] at hs
          obtain ⟨q, hq⟩ : ∃ q, (rW u : Int) = q := ⟨_, rfl⟩
          rw [hq] at HR hr
          have q1 : (q == -1) = false := by simp; omega
          have q2 : (q == r) = false := by simp [hr]
          have HE2 : Hid (E = 8) := by show _ = _; rw [HE.out, hs]
          clear hs e1 hW hr HE hq
          go_wp2_with fail
          refine (HR.out _).mono ?_
          rintro e w2 ⟨rfl, hb2⟩
          have HB2 := Lib.hid (HBI.out.trans (hb2.mono HBI.out.size))
          clear hb2
          go_wp2
          go_ret
          exact ⟨by rw [HE2.out]; rfl, HB2.out⟩
      · have e1 : resW u = -1 := by unfold resW; rw [if_neg hW]
        rw [e1] at HR
        rw [if_neg hW] at hs
        have HE2 : Hid (E = 5) := by show _ = _; rw [HE.out, hs]
        clear hs e1 hW HE
        go_wp2_with fail
        refine (HR.out _).mono ?_
        rintro e w2 ⟨rfl, hb2⟩
        have HB2 := Lib.hid (HBI.out.trans (hb2.mono HBI.out.size))
        clear hb2
        go_wp2
        go_ret
        exact ⟨by rw [HE2.out]; rfl, HB2.out⟩
    · obtain hkn : n ≤ k := by omega
      have HE2 : Hid (E = 0) := by show _ = _; rw [HE.out, show k = n by omega, HEN.out]
      clear HE
      go_wp2
      go_ret
      exact ⟨by rw [HE2.out]; rfl, HBI.out⟩
end Go.Proofs.Ytkjfdaleamonaaa
