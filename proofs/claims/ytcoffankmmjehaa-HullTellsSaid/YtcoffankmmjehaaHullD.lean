/- Contracts of package hull: slices.Reverse at points of the call's own. -/
import Derived.Test.YtcoffankmmjehaaHullC
namespace Go.Proofs.Ytcoffankmmjehaa
open Go.RowKit Go.Lib Hull

def revTo (l : List Pt) (k : Nat) : List Pt := (List.range l.length).map fun t => if t < k ∨ l.length - k ≤ t then pg l (l.length - 1 - t) else pg l t
theorem revTo_length (l : List Pt) (k : Nat) : (revTo l k).length = l.length := by simp [revTo]
theorem pg_revTo (l : List Pt) (k t : Nat) (h : t < l.length) : pg (revTo l k) t = if t < k ∨ l.length - k ≤ t then pg l (l.length - 1 - t) else pg l t := by
  unfold revTo
  rw [show pg ((List.range l.length).map fun t => if t < k ∨ l.length - k ≤ t then pg l (l.length - 1 - t) else pg l t) t = ((List.range l.length).map fun t => if t < k ∨ l.length - k ≤ t then pg l (l.length - 1 - t) else pg l t).getD t (0, 0) from rfl]
  rw [List.getD_eq_getElem?_getD, List.getElem?_map, List.getElem?_range h]; rfl
theorem pg_set {L : List Pt} {i : Nat} (hi : i < L.length) (p : Pt) (j : Nat) : pg (L.set i p) j = if j = i then p else pg L j := by
  unfold pg
  rw [List.getD_eq_getElem?_getD, List.getElem?_set, List.getD_eq_getElem?_getD]
  by_cases e : i = j
  · subst e; simp [hi]
  · rw [if_neg e, if_neg (fun h => e h.symm)]
theorem revTo_zero (l : List Pt) : revTo l 0 = l := pg_ext (revTo_length l 0) fun i hi => by
  rw [revTo_length] at hi
  rw [pg_revTo l 0 i hi, if_neg (by omega)]
theorem revTo_succ (l : List Pt) (k : Nat) (h : 2 * k + 1 < l.length) : revTo l (k + 1) = ((revTo l k).set k (pg l (l.length - 1 - k))).set (l.length - 1 - k) (pg l k) := pg_ext (by simp [revTo_length]) fun i hi => by
  rw [revTo_length] at hi
  rw [pg_revTo l _ i hi, pg_set (by rw [List.length_set, revTo_length]; omega), pg_set (by rw [revTo_length]; omega), pg_revTo l _ i hi]
  by_cases e1 : i = l.length - 1 - k
  · rw [if_pos e1, if_pos (by omega), e1]; congr 1; omega
  · rw [if_neg e1]
    by_cases e2 : i = k
    · rw [if_pos e2, if_pos (by omega), e2]
    · rw [if_neg e2]
      by_cases e3 : i < k ∨ l.length - k ≤ i
      · rw [if_pos e3, if_pos (by omega)]
      · rw [if_neg e3, if_neg (by omega)]
theorem pg_rev (l : List Pt) (t : Nat) (h : t < l.length) : pg l.reverse t = pg l (l.length - 1 - t) := by
  unfold pg; rw [List.getD_eq_getElem?_getD, List.getElem?_reverse h, List.getD_eq_getElem?_getD]
theorem revTo_end (l : List Pt) (k : Nat) (h : l.length ≤ 2 * k + 1) : revTo l k = l.reverse := pg_ext (by simp [revTo_length]) fun i hi => by
  rw [revTo_length] at hi
  rw [pg_revTo l _ i hi, pg_rev l i hi]
  by_cases e : i < k ∨ l.length - k ≤ i
  · rw [if_pos e]
  · rw [if_neg e]; congr 1; omega
def Reversed (w : World) (base g n cap : Nat) (l : List Pt) (e : Ending) (w' : World) : Prop :=
  e = .returned (.tuple #[]) ∧ w'.ownsRow base 41 2 (.slice (some ⟨g, 0, none⟩) n cap) n (pV l.reverse) ∧ Turn (fun k => k = g) w w'
set_option maxHeartbeats 4000000 in
set_option maxRecDepth 1000000 in
theorem reverse_own (g n cap base : Nat) (l : List Pt) (w : World) (ho : w.ownsRow base 41 2 (.slice (some ⟨g, 0, none⟩) n cap) n (pV l)) (hbig : n ≤ 1000000000) :
    Calls Try.prog 26 #[.slice (some ⟨g, 0, none⟩) n cap] w (Reversed w base g n cap l) := by
  have hln : n = l.length := (own_len ho).symm
  have hnc : n ≤ cap := by obtain ⟨_, _, _, h, _⟩ := own_block ho; exact h
  have HO := Lib.hid ho
  have HLN := Lib.hid hln
  clear ho hln
  go_enter Try.func26, Try.ntmps26
  go_wp2
  go_loopg [2, 3] n (fun q s2 s3 wr => ∃ (k : Nat) (jv : Int), 2 * k ≤ n + 1 ∧ jv = (n : Int) - 1 - k ∧ n - k ≤ q ∧ s2 = .int .i64 k ∧ s3 = .int .i64 jv ∧ Hid (wr.ownsRow base 41 2 (.slice (some ⟨g, 0, none⟩) n cap) n (pV (revTo l k)) ∧ Turn (fun k => k = g) w wr))
  case atStart => exact ⟨0, _, by omega, rfl, by omega, by go_num, by go_num, by rw [revTo_zero]; exact HO.out, Turn.refl _ _⟩
  case round =>
    obtain ⟨k, jv, hk, hjv, hg, rfl, rfl, HR⟩ := hrel
    by_cases hlt : 2 * k + 1 < n
    · obtain ⟨m, rfl⟩ : ∃ m : Nat, jv = m := ⟨jv.toNat, by omega⟩
      have hm : m = n - 1 - k := by omega
      have HM := Lib.hid hm
      have hmn : m < n := by omega
      have hkm : k < m := by omega
      obtain ⟨hgl, hfz, hc⟩ := own_cells HR.out.1
      obtain ⟨c0, c1⟩ := hc k (by rw [revTo_length, ← HLN.out]; omega)
      obtain ⟨d0, d1⟩ := hc m (by rw [revTo_length, ← HLN.out]; omega)
      have f0 := hfz (k * 2)
      have f1 := hfz (k * 2 + 1)
      have f2 := hfz (m * 2)
      have f3 := hfz (m * 2 + 1)
      rw [pg_revTo l k k (by rw [← HLN.out]; omega), if_neg (by rw [← HLN.out]; omega)] at c0 c1
      rw [pg_revTo l k m (by rw [← HLN.out]; omega), if_neg (by rw [← HLN.out]; omega)] at d0 d1
      have HN : Hid (∀ nq, (((((wr.drewN nq).setCell ⟨g, k * 2, none⟩ (.int .i64 (pg l m).1)).setCell ⟨g, k * 2 + 1, none⟩ (.int .i64 (pg l m).2)).setCell ⟨g, m * 2, none⟩ (.int .i64 (pg l k).1)).setCell ⟨g, m * 2 + 1, none⟩ (.int .i64 (pg l k).2)).ownsRow base 41 2 (.slice (some ⟨g, 0, none⟩) n cap) n (pV (revTo l (k + 1))) ∧
          Turn (fun k => k = g) w (((((wr.drewN nq).setCell ⟨g, k * 2, none⟩ (.int .i64 (pg l m).1)).setCell ⟨g, k * 2 + 1, none⟩ (.int .i64 (pg l m).2)).setCell ⟨g, m * 2, none⟩ (.int .i64 (pg l k).1)).setCell ⟨g, m * 2 + 1, none⟩ (.int .i64 (pg l k).2))) := fun nq => by
        refine ⟨?_, ((((HR.out.2.drewN nq).setCell (a := ⟨g, k * 2, none⟩) rfl _).setCell (a := ⟨g, k * 2 + 1, none⟩) rfl _).setCell (a := ⟨g, m * 2, none⟩) rfl _).setCell (a := ⟨g, m * 2 + 1, none⟩) rfl _⟩
        rw [revTo_succ l k (by rw [← HLN.out]; exact hlt), show l.length - 1 - k = m by rw [← HLN.out]; omega]
        exact own_setp (own_setp (own_drewN HR.out.1 nq) k _) m _
      generalize pg l k = x at c0 c1 HN
      generalize pg l m = y at d0 d1 HN
      have HN0 := Lib.hid (HN.out 0)
      have HN1 := Lib.hid (HN.out 1)
      have hjv2 : (m : Int) + k + 1 = n := by omega
      clear hfz hc HR HN hm hjv
      go_upto_region 2 with (first | (with_reducible refine wp_region_lex (by kernel_rfl) (by kernel_rfl) ?_) | (with_reducible refine OnlyG.intro (by kernel_rfl) ?_))
      go_wp2
      go_roundg (n - (k + 1))
      case measure => omega
      case rel => exact ⟨k + 1, _, by omega, by omega, Nat.le_refl _, by go_num, rfl, HN1.out⟩
    · have HF : Hid (Reversed w base g n cap l (.returned (.tuple #[])) wr) := ⟨rfl, by rw [← revTo_end l k (by rw [← HLN.out]; omega)]; exact HR.out.1, HR.out.2⟩
      clear HR
      go_wp2
      go_end0
      exact HF.out
end Go.Proofs.Ytcoffankmmjehaa
