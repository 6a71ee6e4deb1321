/- Contracts of package hull: Area2, Equal, Convex, Holds; apiaryref9.SameRing, Area2. -/
import Derived.Test.YtcoffankmmjehaaHullR
import Derived.BigRegion
namespace Go.Proofs.Ytcoffankmmjehaa
open Go.RowKit Go.Lib Hull

/-- hull.Of tells the hull. -/
def OfTold (w : World) (l : List Pt) (e : Ending) (w' : World) : Prop :=
  ∃ ao c, e = .returned (.slice ao (hullF l).length c) ∧ PAt w' ao (hullF l) ∧ (hullF l).length ≤ c ∧ (∀ g o s, ao = some ⟨g, o, s⟩ → w.heap.size ≤ g) ∧ Below w.heap.size w w'
theorem hof_any (ao : Option Addr) (c : Nat) (l : List Pt) (w : World) (h : PAt w ao l) (hn : l.length ≤ 1000000000) :
    Calls Try.prog 10 #[.slice ao l.length c] w (OfTold w l) := (of_any ao c l w h hn).mono fun e w' ⟨a, c, H, h1, h2, h3, h4, h5, h6⟩ => by
  obtain rfl := h1.eq
  exact ⟨a, c, h2, h3, h4, h5, h6⟩
/-- Where l and m are the same up to k. -/
def sameTo (l m : List Pt) (k : Nat) : Prop := ∀ i, i < k → pg l i = pg m i
theorem same_of {l m : List Pt} {n : Nat} (hl : l.length = n) (hm : m.length = n) (h : sameTo l m n) : l = m := pg_ext (by omega) fun i hi => h i (by omega)
set_option maxHeartbeats 1000000 in
set_option maxRecDepth 100000 in
theorem same_any (ao bo : Option Addr) (c d : Nat) (l m : List Pt) (w : World) (h : PAt w ao l) (h2 : PAt w bo m) (hn : l.length ≤ 1000000000) (_hn2 : m.length ≤ 1000000000) :
    Calls Try.prog 13 #[.slice ao l.length c, .slice bo m.length d] w fun e w' => e = .returned (.bool (decide (l = m))) ∧ Below w.heap.size w w' := by
  have EQ := eq_pair
  by_cases hlm : l.length = m.length
  · have HA := Lib.hid h
    have HB := Lib.hid h2
    have HD : Hid (∀ i, i < l.length → pg l i ≠ pg m i → decide (l = m) = false) := fun i hi hne => decide_eq_false fun e => hne (by rw [e])
    have HE : Hid (sameTo l m l.length → decide (l = m) = true) := fun h => decide_eq_true (same_of rfl hlm.symm h)
    rw [← hlm]
    generalize decide (l = m) = r at HD HE ⊢
    obtain ⟨n, hnn⟩ : ∃ n, l.length = n := ⟨_, rfl⟩
    have HN := Lib.hid hnn
    have HM : Hid (m.length = n) := hlm.symm.trans hnn
    rw [hnn] at hn HD HE ⊢
    clear h h2 hnn hlm _hn2
    go_enter Try.func13, Try.ntmps13
    go_wp2
    go_loopw [5] (fun i wr => ∃ k : Nat, k ≤ n ∧ i = .int .i64 k ∧ Hid (sameTo l m k ∧ Below w.heap.size w wr)) (fun i _ => n - (intOf i).toNat)
    case atStart => exact ⟨0, Nat.zero_le _, rfl, fun i hi => by omega, Below.refl _ _⟩
    case round =>
      obtain ⟨k, hk, rfl, HR⟩ := hrel
      by_cases hlt : k < n
      · obtain ⟨b1, o1, rfl, hb1, hc1⟩ := (HA.out.below HR.out.2) (by rw [HN.out]; omega)
        obtain ⟨b2, o2, rfl, hb2, hc2⟩ := (HB.out.below HR.out.2) (by rw [HM.out]; omega)
        obtain ⟨c0, c1⟩ := hc1 k (by rw [HN.out]; exact hlt)
        obtain ⟨d0, d1⟩ := hc2 k (by rw [HM.out]; exact hlt)
        have HS : Hid (pg l k = pg m k → sameTo l m (k + 1)) := fun e i hi => by
          by_cases e2 : i = k
          · rw [e2]; exact e
          · exact HR.out.1 i (by omega)
        have HDK := Lib.hid (HD.out k hlt)
        have HBB := Lib.hid HR.out.2
        generalize pg l k = x at c0 c1 HS HDK
        generalize pg m k = y at d0 d1 HS HDK
        obtain ⟨x1, x2⟩ := x
        obtain ⟨y1, y2⟩ := y
        clear hc1 hc2 HR HD HE
        have HNX : Hid (∀ nq, Below w.heap.size w (wr.drewN nq)) := fun nq => below_drewN HBB.out nq
        by_cases e : x1 = y1 ∧ x2 = y2
        · obtain ⟨rfl, rfl⟩ := e
          have q1 : (x1 == x1 && x2 == x2) = true := by simp
          have HSS := Lib.hid (HS.out rfl)
          clear HS HDK
          go_upto_region 6 with (fail)
          go_quiet (fail)
          have HNB := Lib.hid (HNX.out nq)
          go_wp2
          go_roundw
          case rel => exact ⟨k + 1, by omega, by go_num, HSS.out, HNB.out⟩
          case measure => simp [intOf]; omega
        · have q1 : (x1 == y1 && x2 == y2) = false := by
            rw [Bool.eq_false_iff]; intro h; simp at h; exact e h
          have HF := Lib.hid (HDK.out (fun h => e (by cases h; exact ⟨rfl, rfl⟩)))
          clear HS HDK e
          go_upto_region 6 with (fail)
          go_quiet (fail)
          have HNB := Lib.hid (HNX.out nq)
          go_wp2
          go_ret
          exact ⟨ret_bool HF.out.symm, HNB.out⟩
      · obtain rfl : k = n := by omega
        have HF := Lib.hid (HE.out HR.out.1)
        have HBB := Lib.hid HR.out.2
        clear HR HD HE
        go_wp2
        go_ret
        exact ⟨ret_bool HF.out.symm, HBB.out⟩
  · have HF : Hid (decide (l = m) = false) := decide_eq_false fun e => hlm (by rw [e])
    generalize decide (l = m) = r at HF ⊢
    generalize l.length = n1 at *
    generalize m.length = n2 at *
    have q1 : (!decide ((n1 : Int) = (n2 : Int))) = true := by simp; omega
    clear h h2
    go_enter Try.func13, Try.ntmps13
    go_wp2
    go_ret
    exact ⟨ret_bool HF.out.symm, Below.refl _ _⟩
set_option maxHeartbeats 1000000 in
set_option maxRecDepth 100000 in
theorem equal_any (ao bo : Option Addr) (c d : Nat) (l m : List Pt) (w : World) (h : PAt w ao l) (h2 : PAt w bo m) (hn : l.length ≤ 1000000000) (_hn2 : m.length ≤ 1000000000) :
    Calls Try.prog 28 #[.slice ao l.length c, .slice bo m.length d] w fun e w' => e = .returned (.bool (decide (l = m))) ∧ Below w.heap.size w w' := by
  have EQ := eq_pair
  by_cases hlm : l.length = m.length
  · have HA := Lib.hid h
    have HB := Lib.hid h2
    have HD : Hid (∀ i, i < l.length → pg l i ≠ pg m i → decide (l = m) = false) := fun i hi hne => decide_eq_false fun e => hne (by rw [e])
    have HE : Hid (sameTo l m l.length → decide (l = m) = true) := fun h => decide_eq_true (same_of rfl hlm.symm h)
    rw [← hlm]
    generalize decide (l = m) = r at HD HE ⊢
    obtain ⟨n, hnn⟩ : ∃ n, l.length = n := ⟨_, rfl⟩
    have HN := Lib.hid hnn
    have HM : Hid (m.length = n) := hlm.symm.trans hnn
    rw [hnn] at hn HD HE ⊢
    clear h h2 hnn hlm _hn2
    go_enter Try.func28, Try.ntmps28
    go_wp2
    go_loopw [13] (fun i wr => ∃ k : Nat, k ≤ n ∧ i = .int .i64 k ∧ Hid (sameTo l m k ∧ Below w.heap.size w wr)) (fun i _ => n - (intOf i).toNat)
    case atStart => exact ⟨0, Nat.zero_le _, rfl, fun i hi => by omega, Below.refl _ _⟩
    case round =>
      obtain ⟨k, hk, rfl, HR⟩ := hrel
      by_cases hlt : k < n
      · obtain ⟨b1, o1, rfl, hb1, hc1⟩ := (HA.out.below HR.out.2) (by rw [HN.out]; omega)
        obtain ⟨b2, o2, rfl, hb2, hc2⟩ := (HB.out.below HR.out.2) (by rw [HM.out]; omega)
        obtain ⟨c0, c1⟩ := hc1 k (by rw [HN.out]; exact hlt)
        obtain ⟨d0, d1⟩ := hc2 k (by rw [HM.out]; exact hlt)
        have HS : Hid (pg l k = pg m k → sameTo l m (k + 1)) := fun e i hi => by
          by_cases e2 : i = k
          · rw [e2]; exact e
          · exact HR.out.1 i (by omega)
        have HDK := Lib.hid (HD.out k hlt)
        have HBB := Lib.hid HR.out.2
        generalize pg l k = x at c0 c1 HS HDK
        generalize pg m k = y at d0 d1 HS HDK
        obtain ⟨x1, x2⟩ := x
        obtain ⟨y1, y2⟩ := y
        clear hc1 hc2 HR HD HE
        have HNX : Hid (∀ nq, Below w.heap.size w (wr.drewN nq)) := fun nq => below_drewN HBB.out nq
        by_cases e : x1 = y1 ∧ x2 = y2
        · obtain ⟨rfl, rfl⟩ := e
          have q1 : (x1 == x1 && x2 == x2) = true := by simp
          have HSS := Lib.hid (HS.out rfl)
          clear HS HDK
          go_upto_region 6 with (fail)
          go_quiet (fail)
          have HNB := Lib.hid (HNX.out nq)
          go_wp2
          go_roundw
          case rel => exact ⟨k + 1, by omega, by go_num, HSS.out, HNB.out⟩
          case measure => simp [intOf]; omega
        · have q1 : (x1 == y1 && x2 == y2) = false := by
            rw [Bool.eq_false_iff]; intro h; simp at h; exact e h
          have HF := Lib.hid (HDK.out (fun h => e (by cases h; exact ⟨rfl, rfl⟩)))
          clear HS HDK e
          go_upto_region 6 with (fail)
          go_quiet (fail)
          have HNB := Lib.hid (HNX.out nq)
          go_wp2
          go_ret
          exact ⟨ret_bool HF.out.symm, HNB.out⟩
      · obtain rfl : k = n := by omega
        have HF := Lib.hid (HE.out HR.out.1)
        have HBB := Lib.hid HR.out.2
        clear HR HD HE
        go_wp2
        go_ret
        exact ⟨ret_bool HF.out.symm, HBB.out⟩
  · have HF : Hid (decide (l = m) = false) := decide_eq_false fun e => hlm (by rw [e])
    generalize decide (l = m) = r at HF ⊢
    generalize l.length = n1 at *
    generalize m.length = n2 at *
    have q1 : (!decide ((n1 : Int) = (n2 : Int))) = true := by simp; omega
    clear h h2
    go_enter Try.func28, Try.ntmps28
    go_wp2
    go_ret
    exact ⟨ret_bool HF.out.symm, Below.refl _ _⟩
theorem mul_near {a b : Int} (h1 : -536870912 ≤ a ∧ a ≤ 536870912) (h2 : -536870912 ≤ b ∧ b ≤ 536870912) : -288230376151711744 ≤ a * b ∧ a * b ≤ 288230376151711744 := by
  have := mul_le (a := a) (b := b) (U := 536870912) (V := 536870912) h1.1 h1.2 h2.1 h2.2
  omega
set_option maxHeartbeats 2000000 in
set_option maxRecDepth 100000 in
theorem area_any (ao : Option Addr) (c : Nat) (l : List Pt) (w : World) (h : PAt w ao l) (hn : l.length ≤ 1000000000) :
    Calls Try.prog 14 #[.slice ao l.length c] w fun e w' => e = .returned (.int .i64 (if okB l = true then wrap64 (area l) else 0)) ∧ Below w.heap.size w w' := by
  have HOK := Lib.hid (ok_any ao c l w h hn)
  have HR := Lib.hid h
  cases hok : okB l
  · rw [hok] at HOK
    have HF : Hid ((if (false : Bool) = true then wrap64 (area l) else 0) = 0) := rfl
    generalize (if (false : Bool) = true then wrap64 (area l) else 0) = r at HF ⊢
    clear h hok
    go_enter Try.func14, Try.ntmps14
    go_wp2_with fail
    refine HOK.out.mono ?_
    rintro e w1 ⟨rfl, hb⟩
    have HB := Lib.hid hb
    clear hb
    go_wp2
    go_ret
    exact ⟨ret_int HF.out.symm, HB.out⟩
  · have hOK := (okB_iff l).1 hok
    rw [hok] at HOK
    have HNR := Lib.hid hOK.2
    have HF : Hid ((if (true : Bool) = true then wrap64 (area l) else 0) = wrap64 (areaTo l l.length)) := rfl
    generalize (if (true : Bool) = true then wrap64 (area l) else 0) = r at HF ⊢
    obtain ⟨n, hnn⟩ : ∃ n, l.length = n := ⟨_, rfl⟩
    have HN := Lib.hid hnn
    rw [hnn] at hn HF HOK ⊢
    clear h hok hOK hnn
    go_enter Try.func14, Try.ntmps14
    go_wp2_with fail
    refine HOK.out.mono ?_
    rintro e w1 ⟨rfl, hb⟩
    have HB1 := Lib.hid hb
    clear hb HOK
    go_wp2
    go_loopw [3, 12] (fun v i wr => ∃ (k : Nat) (s : Int), k ≤ n ∧ i = .int .i64 k ∧ v = .int .i64 s ∧ Hid (s = wrap64 (areaTo l k)) ∧ Hid (Below w.heap.size w wr)) (fun _ i _ => n - (intOf i).toNat)
    case atStart => exact ⟨0, 0, Nat.zero_le _, rfl, rfl, (by show (0 : Int) = wrap64 (areaTo l 0); rw [show areaTo l 0 = 0 from rfl]; unfold wrap64; omega), HB1.out⟩
    case round =>
      obtain ⟨k, s, hk, rfl, rfl, HS, HBX⟩ := hrel
      by_cases hlt : k < n
      · obtain ⟨b, off, rfl, hb, hc⟩ := (HR.out.below HBX.out) (by rw [HN.out]; omega)
        obtain ⟨t, ht, htn⟩ : ∃ t, (k + 1) % n = t ∧ t < n := ⟨_, rfl, Nat.mod_lt _ (by omega)⟩
        have htI : ((k : Int) + 1) % (n : Int) = (t : Int) := by have := congrArg (fun x : Nat => (x : Int)) ht; simpa using this
        obtain ⟨c0, c1⟩ := hc k (by rw [HN.out]; exact hlt)
        obtain ⟨d0, d1⟩ := hc t (by rw [HN.out]; exact htn)
        have hnx : nx l k = pg l t := by unfold nx; rw [HN.out, ht]
        have na := near_of HNR.out (i := k) (by rw [HN.out]; exact hlt)
        have nb := near_of HNR.out (i := t) (by rw [HN.out]; exact htn)
        have HST : Hid (wrap64 (areaTo l (k + 1)) = wrap64 (s + ((pg l k).1 * (pg l t).2 - (pg l t).1 * (pg l k).2))) := by
          show _ = _
          rw [HS.out, areaTo_succ, hnx, wrap_add]
          unfold cr
          congr 2
          rw [Int.mul_comm (pg l t).1]
        clear hc ht hnx
        generalize pg l k = x at *
        generalize pg l t = y at *
        obtain ⟨x1, x2⟩ := x
        obtain ⟨y1, y2⟩ := y
        unfold Near at na nb
        simp only at na nb c0 c1 d0 d1 HST
        have b1 := mul_near na.1 nb.2
        have b2 := mul_near nb.1 na.2
        obtain ⟨p, hp⟩ : ∃ p, x1 * y2 = p := ⟨_, rfl⟩
        obtain ⟨q, hq⟩ : ∃ q, y1 * x2 = q := ⟨_, rfl⟩
        rw [hp] at b1 HST
        rw [hq] at b2 HST
        have w1 : IntKind.i64.wrap (x1 * y2) = p := by rw [hp]; exact wrap_in (by omega) (by omega)
        have w2 : IntKind.i64.wrap (y1 * x2) = q := by rw [hq]; exact wrap_in (by omega) (by omega)
        have HBN : Hid (Below w.heap.size w ((wr.alloc (.cells #[.int .i64 x1, .int .i64 x2] 26)).alloc (.cells #[.int .i64 y1, .int .i64 y2] 26))) := (HBX.out.alloc HBX.out.size _).alloc (by have := HBX.out.size; simp; omega) _
        clear hp hq na nb
        go_wp2
        go_roundw
        case rel => exact ⟨k + 1, _, by omega, by go_num, rfl, HST.out.symm, HBN.out⟩
        case measure => simp [intOf]; omega
      · obtain rfl : k = n := by omega
        have HFF : Hid (r = s) := by show _ = _; rw [HF.out, HS.out]
        clear HF HS
        go_wp2
        go_ret
        exact ⟨ret_int HFF.out.symm, HBX.out⟩
end Go.Proofs.Ytcoffankmmjehaa
