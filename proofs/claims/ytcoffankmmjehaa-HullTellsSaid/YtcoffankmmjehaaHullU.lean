/- Contracts of apiaryref9.turn, less, size, further, Small, Area2 at small points. -/
import Derived.Test.YtcoffankmmjehaaHullM
import Derived.Test.YtcoffankmmjehaaRefX
namespace Go.Proofs.Ytcoffankmmjehaa
open Go.RowKit Go.Lib Hull

def sgn3 (t : Int) : Int := if t < 0 then -1 else if 0 < t then 1 else 0
theorem cross_near {a b c : Pt} (ha : Near a) (hb : Near b) (hc : Near c) : crossF a.1 a.2 b.1 b.2 c.1 c.2 = sgn3 (turn a b c) := by
  unfold Near at ha hb hc
  have e : ∀ z : Int, -4294967296 ≤ z → z ≤ 4294967296 → wrap64 z = z := fun z h1 h2 => by unfold wrap64; omega
  unfold crossF
  rw [e (b.1 - a.1) (by omega) (by omega), e (c.2 - a.2) (by omega) (by omega), e (b.2 - a.2) (by omega) (by omega), e (c.1 - a.1) (by omega) (by omega)]
  have ht : turn a b c = (b.1 - a.1) * (c.2 - a.2) - (b.2 - a.2) * (c.1 - a.1) := rfl
  unfold sgn3
  rw [ht]
  generalize (b.1 - a.1) * (c.2 - a.2) = m
  generalize (b.2 - a.2) * (c.1 - a.1) = n
  by_cases h1 : m < n
  · rw [if_pos h1, if_pos (show m - n < 0 by omega)]
  · rw [if_neg h1, if_neg (show ¬ m - n < 0 by omega)]
    by_cases h2 : n < m
    · rw [if_pos h2, if_pos (show 0 < m - n by omega)]
    · rw [if_neg h2, if_neg (show ¬ 0 < m - n by omega)]
theorem rturn_any (a b c : Pt) (ha : Near a) (hb : Near b) (hc : Near c) (w : World) :
    Calls Try.prog 30 #[.agg #[.int .i64 a.1, .int .i64 a.2], .agg #[.int .i64 b.1, .int .i64 b.2], .agg #[.int .i64 c.1, .int .i64 c.2]] w fun e w' => e = .returned (.int .i64 (sgn3 (turn a b c))) ∧ Below w.heap.size w w' := by
  have HC := Lib.hid (cross_any a.1 a.2 b.1 b.2 c.1 c.2)
  rw [cross_near ha hb hc] at HC
  have hb0 : Below w.heap.size w (((w.alloc (.cells #[.int .i64 a.1, .int .i64 a.2] 26)).alloc (.cells #[.int .i64 b.1, .int .i64 b.2] 26)).alloc (.cells #[.int .i64 c.1, .int .i64 c.2] 26)) := (((Below.refl _ _).alloc (Nat.le_refl _) _).alloc (by simp) _).alloc (by simp; omega) _
  have HB := Lib.hid hb0
  generalize sgn3 (turn a b c) = r at HC ⊢
  clear ha hb hc hb0
  go_enter Try.func30, Try.ntmps30
  go_wp2_with fail
  refine (HC.out _).mono ?_
  rintro e w1 ⟨rfl, hb1⟩
  have HB1 : Hid (Below w.heap.size w w1) := HB.out.trans (hb1.mono HB.out.size)
  clear hb1
  go_wp2
  go_ret
  exact ⟨rfl, HB1.out⟩
theorem rless_any (a b : Pt) (w : World) :
    Calls Try.prog 29 #[.agg #[.int .i64 a.1, .int .i64 a.2], .agg #[.int .i64 b.1, .int .i64 b.2]] w fun e w' => e = .returned (.bool (ltB a b)) ∧ Below w.heap.size w w' := by
  have hb0 : Below w.heap.size w ((w.alloc (.cells #[.int .i64 a.1, .int .i64 a.2] 26)).alloc (.cells #[.int .i64 b.1, .int .i64 b.2] 26)) := ((Below.refl _ _).alloc (Nat.le_refl _) _).alloc (by simp) _
  have HB := Lib.hid hb0
  have HF : Hid (ltB a b = (decide (a.1 < b.1) || (a.1 == b.1 && decide (a.2 < b.2)))) := rfl
  generalize ltB a b = r at HF ⊢
  obtain ⟨a1, a2⟩ := a
  obtain ⟨b1, b2⟩ := b
  simp only at *
  clear hb0
  cases q1 : decide (a1 < b1)
  · cases q2 : (a1 == b1)
    · have HF2 : Hid (r = false) := by show _ = _; rw [HF.out, q1, q2]; rfl
      go_enter Try.func29, Try.ntmps29
      go_wp2
      go_ret
      exact ⟨ret_bool HF2.out.symm, HB.out⟩
    · have HF2 : Hid (r = decide (a2 < b2)) := by show _ = _; rw [HF.out, q1, q2]; rfl
      go_enter Try.func29, Try.ntmps29
      go_wp2
      go_ret
      exact ⟨ret_bool HF2.out.symm, HB.out⟩
  · have HF2 : Hid (r = true) := by show _ = _; rw [HF.out, q1]; rfl
    go_enter Try.func29, Try.ntmps29
    go_wp2
    go_ret
    exact ⟨ret_bool HF2.out.symm, HB.out⟩
def sizeF (n : Int) : Int := if n < 0 then wrap64 (-n) else n
theorem rsize_any (n : Int) (w : World) : Calls Try.prog 38 #[.int .i64 n] w fun e w' => e = .returned (.int .i64 (sizeF n)) ∧ w' = w := by
  have HF : Hid (sizeF n = if n < 0 then wrap64 (-n) else n) := rfl
  generalize sizeF n = r at HF ⊢
  by_cases h : n < 0
  · have HF2 : Hid (r = wrap64 (-n)) := by show _ = _; rw [HF.out, if_pos h]
    go_enter Try.func38, Try.ntmps38
    go_wp2
    go_ret
    exact ⟨ret_int HF2.out.symm, rfl⟩
  · have HF2 : Hid (r = n) := by show _ = _; rw [HF.out, if_neg h]
    go_enter Try.func38, Try.ntmps38
    go_wp2
    go_ret
    exact ⟨ret_int HF2.out.symm, rfl⟩
theorem sizeF_abs {n : Int} (h1 : -4294967296 ≤ n) (h2 : n ≤ 4294967296) : sizeF n = n.natAbs := by
  unfold sizeF wrap64
  split <;> omega
set_option maxHeartbeats 1000000 in
set_option maxRecDepth 100000 in
theorem rfurther_any (a q p : Pt) (ha : Near a) (hq : Near q) (hp : Near p) (w : World) :
    Calls Try.prog 31 #[.agg #[.int .i64 a.1, .int .i64 a.2], .agg #[.int .i64 q.1, .int .i64 q.2], .agg #[.int .i64 p.1, .int .i64 p.2]] w fun e w' => e = .returned (.bool (decide (mag a q < mag a p))) ∧ Below w.heap.size w w' := by
  unfold Near at ha hq hp
  have hb0 : Below w.heap.size w (((w.alloc (.cells #[.int .i64 a.1, .int .i64 a.2] 26)).alloc (.cells #[.int .i64 q.1, .int .i64 q.2] 26)).alloc (.cells #[.int .i64 p.1, .int .i64 p.2] 26)) := (((Below.refl _ _).alloc (Nat.le_refl _) _).alloc (by simp) _).alloc (by simp; omega) _
  have HS := Lib.hid rsize_any
  have e1 := sizeF_abs (n := p.1 - a.1) (by omega) (by omega)
  have e2 := sizeF_abs (n := p.2 - a.2) (by omega) (by omega)
  have e3 := sizeF_abs (n := q.1 - a.1) (by omega) (by omega)
  have e4 := sizeF_abs (n := q.2 - a.2) (by omega) (by omega)
  have HF : Hid (decide (mag a q < mag a p) = decide (sizeF (q.1 - a.1) + sizeF (q.2 - a.2) < sizeF (p.1 - a.1) + sizeF (p.2 - a.2))) := by show _ = _; rw [e1, e2, e3, e4]; rfl
  generalize decide (mag a q < mag a p) = r at HF ⊢
  have w1 : IntKind.i64.wrap (p.1 - a.1) = p.1 - a.1 := wrap_in (by omega) (by omega)
  have w2 : IntKind.i64.wrap (p.2 - a.2) = p.2 - a.2 := wrap_in (by omega) (by omega)
  have w3 : IntKind.i64.wrap (q.1 - a.1) = q.1 - a.1 := wrap_in (by omega) (by omega)
  have w4 : IntKind.i64.wrap (q.2 - a.2) = q.2 - a.2 := wrap_in (by omega) (by omega)
  have w5 : IntKind.i64.wrap (sizeF (p.1 - a.1) + sizeF (p.2 - a.2)) = sizeF (p.1 - a.1) + sizeF (p.2 - a.2) := wrap_in (by omega) (by omega)
  have w6 : IntKind.i64.wrap (sizeF (q.1 - a.1) + sizeF (q.2 - a.2)) = sizeF (q.1 - a.1) + sizeF (q.2 - a.2) := wrap_in (by omega) (by omega)
  have T : PtIn (((w.alloc (.cells #[.int .i64 a.1, .int .i64 a.2] 26)).alloc (.cells #[.int .i64 q.1, .int .i64 q.2] 26)).alloc (.cells #[.int .i64 p.1, .int .i64 p.2] 26)) w.heap.size a ∧ PtIn (((w.alloc (.cells #[.int .i64 a.1, .int .i64 a.2] 26)).alloc (.cells #[.int .i64 q.1, .int .i64 q.2] 26)).alloc (.cells #[.int .i64 p.1, .int .i64 p.2] 26)) (w.heap.size + 1) q ∧ PtIn (((w.alloc (.cells #[.int .i64 a.1, .int .i64 a.2] 26)).alloc (.cells #[.int .i64 q.1, .int .i64 q.2] 26)).alloc (.cells #[.int .i64 p.1, .int .i64 p.2] 26)) (w.heap.size + 2) p := by
    have := tri_cells w a q p
    exact ⟨this.1, this.2.1, this.2.2.1⟩
  obtain ⟨⟨a1, a2, a3⟩, ⟨b1, b2, b3⟩, ⟨c1, c2, c3⟩⟩ := T
  have HB := Lib.hid hb0
  clear hb0 e1 e2 e3 e4 ha hq hp
  go_enter Try.func31, Try.ntmps31
  go_upto_region 1 with (fail)
  generalize ((w.alloc (.cells #[.int .i64 a.1, .int .i64 a.2] 26)).alloc (.cells #[.int .i64 q.1, .int .i64 q.2] 26)).alloc (.cells #[.int .i64 p.1, .int .i64 p.2] 26) = wa at *
  go_quiet ((go_at_call 38; exact Calls.quiet_of_same (HS.out _ _)))
  have HBQ : Hid (Below w.heap.size w (wa.drewN nq)) := below_drewN HB.out nq
  go_wp2
  go_ret
  exact ⟨ret_bool HF.out.symm, HBQ.out⟩
def inR (x : Int) : Prop := -536870912 ≤ x ∧ x ≤ 536870912
theorem outB_co (p : Pt) : outB p = false ↔ inR p.1 ∧ inR p.2 := outB_near p
theorem small_no {l : List Pt} {k : Nat} (hk : k < l.length) (h : ¬ inR (pg l k).1 ∨ ¬ inR (pg l k).2) (m : Int) : (decide ((l.length : Int) ≤ m) && !l.any outB) = false := by
  have : l.any outB = true := any_at hk (by
    cases e : outB (pg l k)
    · exact absurd ((outB_co _).1 e) (fun h2 => by rcases h with h | h; exact h h2.1; exact h h2.2)
    · rfl)
  rw [this]; simp
set_option maxHeartbeats 2000000 in
set_option maxRecDepth 100000 in
theorem rsmall_any (ao : Option Addr) (c : Nat) (l : List Pt) (most : Int) (w : World) (h : PAt w ao l) (hn : l.length ≤ 1000000000) :
    Calls Try.prog 18 #[.slice ao l.length c, .int .i64 most] w fun e w' => e = .returned (.bool (decide ((l.length : Int) ≤ most) && !l.any outB)) ∧ Below w.heap.size w w' := by
  have HNO : Hid (∀ k, k < l.length → (¬ inR (pg l k).1 ∨ ¬ inR (pg l k).2) → (decide ((l.length : Int) ≤ most) && !l.any outB) = false) := fun k hk h => small_no hk h most
  have HYES : Hid (((l.length : Int) ≤ most) → (∀ k, k < l.length → outB (pg l k) = false) → (decide ((l.length : Int) ≤ most) && !l.any outB) = true) := fun h1 h2 => by rw [decide_eq_true h1, any_no h2]; rfl
  have HBIG : Hid (¬ ((l.length : Int) ≤ most) → (decide ((l.length : Int) ≤ most) && !l.any outB) = false) := fun h => by rw [decide_eq_false h]; rfl
  generalize (decide ((l.length : Int) ≤ most) && !l.any outB) = r at *
  obtain ⟨n, hnn⟩ : ∃ n, l.length = n := ⟨_, rfl⟩
  have HN := Lib.hid hnn
  have HW := Lib.hid h
  rw [hnn] at hn HNO HYES HBIG ⊢
  clear h hnn
  by_cases hm : (n : Int) ≤ most
  · have HY := Lib.hid (HYES.out hm)
    clear HYES HBIG
    go_enter Try.func18, Try.ntmps18
    go_wp2
    go_loopw [5] (fun i wr => ∃ k : Nat, k ≤ n ∧ i = .int .i64 k ∧ Hid ((∀ j, j < k → outB (pg l j) = false) ∧ Below w.heap.size w wr)) (fun i _ => n - (intOf i).toNat)
    case atStart => exact ⟨0, Nat.zero_le _, rfl, fun j hj => by omega, Below.refl _ _⟩
    case round =>
      obtain ⟨k, hk, rfl, HR⟩ := hrel
      by_cases hlt : k < n
      · obtain ⟨b, off, rfl, hb, hc⟩ := (HW.out.below HR.out.2) (by rw [HN.out]; omega)
        obtain ⟨c0, c1⟩ := hc k (by rw [HN.out]; exact hlt)
        have HK := Lib.hid (HNO.out k hlt)
        have HS : Hid (inR (pg l k).1 → inR (pg l k).2 → ∀ j, j < k + 1 → outB (pg l j) = false) := fun h1 h2 j hj => by
          by_cases e : j = k
          · rw [e]; exact (outB_co _).2 ⟨h1, h2⟩
          · exact HR.out.1 j (by omega)
        have HB := Lib.hid HR.out.2
        generalize pg l k = x at *
        obtain ⟨x1, x2⟩ := x
        simp only at c0 c1 HK HS
        clear hc HR
        obtain ⟨wo, hwo⟩ : ∃ wo : World, wo = wr := ⟨_, rfl⟩
        subst hwo
        go_wp2
        go_loop [6] (fun a => a = .int .i64 0 ∨ (a = .int .i64 1 ∧ inR x1) ∨ (a = .int .i64 2 ∧ inR x1 ∧ inR x2)) (fun a => 2 - (intOf a).toNat)
        case atStart => exact .inl rfl
        case round =>
          rcases hrel with rfl | ⟨rfl, h1⟩ | ⟨rfl, h1, h2⟩
          · by_cases g1 : x1 < -536870912
            · have HF := Lib.hid (HK.out (.inl (fun h => by unfold inR at h; omega)))
              go_wp2
              go_ret
              exact ⟨ret_bool HF.out.symm, HB.out⟩
            · by_cases g2 : 536870912 < x1
              · have HF := Lib.hid (HK.out (.inl (fun h => by unfold inR at h; omega)))
                go_wp2
                go_ret
                exact ⟨ret_bool HF.out.symm, HB.out⟩
              · have hin : Hid (inR x1) := by show inR x1; unfold inR; omega
                go_wp2
                go_round
                case rel => exact .inr (.inl ⟨by go_num, hin.out⟩)
                case measure => simp [intOf]
          · have H1 := Lib.hid h1
            clear h1
            by_cases g1 : x2 < -536870912
            · have HF := Lib.hid (HK.out (.inr (fun h => by unfold inR at h; omega)))
              go_wp2
              go_ret
              exact ⟨ret_bool HF.out.symm, HB.out⟩
            · by_cases g2 : 536870912 < x2
              · have HF := Lib.hid (HK.out (.inr (fun h => by unfold inR at h; omega)))
                go_wp2
                go_ret
                exact ⟨ret_bool HF.out.symm, HB.out⟩
              · have hin : Hid (inR x2) := by show inR x2; unfold inR; omega
                go_wp2
                go_round
                case rel => exact .inr (.inr ⟨by go_num, H1.out, hin.out⟩)
                case measure => simp [intOf]
          · have HSS := Lib.hid (HS.out h1 h2)
            clear h1 h2
            go_wp2
            go_roundw
            case rel => exact ⟨k + 1, by omega, by go_num, HSS.out, HB.out⟩
            case measure => simp [intOf]; omega
      · obtain rfl : k = n := by omega
        have HF := Lib.hid (HY.out (fun j hj => HR.out.1 j hj))
        have HB := Lib.hid HR.out.2
        clear HR
        go_wp2
        go_ret
        exact ⟨ret_bool HF.out.symm, HB.out⟩
  · have HF := Lib.hid (HBIG.out hm)
    clear HYES HBIG HNO
    go_enter Try.func18, Try.ntmps18
    go_wp2
    go_ret
    exact ⟨ret_bool HF.out.symm, Below.refl _ _⟩
theorem small_ok (l : List Pt) : (decide ((l.length : Int) ≤ 1000) && !l.any outB) = okB l := by
  unfold okB
  congr 1
  rw [decide_eq_decide]; omega
theorem small_one (p : Pt) : (decide ((([p] : List Pt).length : Int) ≤ 1) && !([p] : List Pt).any outB) = okB [p] := by
  unfold okB; simp
theorem two_cells (w : World) (p q : Pt) :
    PtIn (((w.alloc (ptObj p)).alloc (ptObj q)).drew) w.heap.size p ∧ PtIn (((w.alloc (ptObj p)).alloc (ptObj q)).drew) (w.heap.size + 1) q ∧ Below w.heap.size w (((w.alloc (ptObj p)).alloc (ptObj q)).drew) := by
  have s1 : (w.alloc (ptObj p)).heap.size = w.heap.size + 1 := World.size_alloc _ _
  refine ⟨ptIn_of ?_, ptIn_of ?_, (((Below.refl _ _).alloc (Nat.le_refl _) _).alloc (by rw [s1]; omega) _).drew⟩
  · show (World.alloc (World.alloc w _) _).heap[_]? = _
    rw [Below.heap_alloc _ _ _ (by rw [s1]; omega)]; exact heap_new _ _ _ rfl
  · show (World.alloc (World.alloc w _) _).heap[_]? = _
    exact heap_new _ _ _ s1
set_option maxHeartbeats 4000000 in
set_option maxRecDepth 100000 in
theorem rarea_any (ao : Option Addr) (c : Nat) (l : List Pt) (w : World) (h : PAt w ao l) (hok : okB l = true) :
    Calls Try.prog 19 #[.slice ao l.length c] w fun e w' => e = .returned (.int .i64 (wrap64 (area l))) ∧ Below w.heap.size w w' := by
  have hOK := (okB_iff l).1 hok
  have HNR := Lib.hid hOK.2
  have hn := hOK.1
  have HR := Lib.hid h
  have HF : Hid (wrap64 (area l) = wrap64 (areaTo l l.length)) := rfl
  generalize wrap64 (area l) = r at HF ⊢
  obtain ⟨n, hnn⟩ : ∃ n, l.length = n := ⟨_, rfl⟩
  have HN := Lib.hid hnn
  rw [hnn] at hn HF ⊢
  clear h hok hOK hnn
  go_enter Try.func19, Try.ntmps19
  go_wp2
  go_loopw [3, 4] (fun v i wr => ∃ (k : Nat) (s : Int), k ≤ n ∧ i = .int .i64 k ∧ v = .int .i64 s ∧ Hid (s = wrap64 (areaTo l k)) ∧ Hid (Below w.heap.size w wr)) (fun _ i _ => n - (intOf i).toNat)
  case atStart => exact ⟨0, 0, Nat.zero_le _, rfl, rfl, (by show (0 : Int) = wrap64 (areaTo l 0); rw [show areaTo l 0 = 0 from rfl]; unfold wrap64; omega), Below.refl _ _⟩
  case round =>
    obtain ⟨k, s, hk, rfl, rfl, HS, HBX⟩ := hrel
    by_cases hlt : k < n
    · obtain ⟨b, off, rfl, hb, hc⟩ := (HR.out.below HBX.out) (by rw [HN.out]; omega)
      obtain ⟨t, ht, htn⟩ : ∃ t, (k + 1) % n = t ∧ t < n := ⟨_, rfl, Nat.mod_lt _ (by omega)⟩
      have htI : ((k : Int) + 1) % (n : Int) = (t : Int) := by have := congrArg (fun x : Nat => (x : Int)) ht; simpa using this
      obtain ⟨c0, c1⟩ := hc k (by rw [HN.out]; exact hlt)
      obtain ⟨d0, d1⟩ := hc t (by rw [HN.out]; exact htn)
      have hnx : nx l k = pg l t := by unfold nx; rw [HN.out, ht]
      have na := near_of HNR.out (i := k) (by rw [HN.out]; exact hlt)
      have nb := near_of HNR.out (i := t) (by rw [HN.out]; exact htn)
      have HST : Hid (wrap64 (areaTo l (k + 1)) = wrap64 (wrap64 (s + (pg l k).1 * (pg l t).2) - (pg l t).1 * (pg l k).2)) := by
        show _ = _
        rw [HS.out, wrap_sub3, areaTo_succ, hnx]
        unfold cr
        rw [Int.mul_comm (pg l t).1]
      clear hc ht hnx
      generalize pg l k = x at *
      generalize pg l t = y at *
      go_upto_region 5 with (fail)
      go_cut [5, 6] from 13 to 24 (fun v5 v6 wx => ∃ g1 g2 : Nat, v5 = .pointer (some ⟨g1, 0, none⟩) ∧ v6 = .pointer (some ⟨g2, 0, none⟩) ∧ Hid (PtIn wx g1 x ∧ PtIn wx g2 y ∧ Below wr.heap.size wr wx))
      case first =>
        have T1 := Lib.hid (two_cells wr x y)
        have T2 := Lib.hid (two_cells wr y x)
        clear HST HS na nb
        go_region
        all_goals
          go_wp2
          go_meet
          first
            | exact ⟨_, _, rfl, rfl, T1.out.1, T1.out.2.1, T1.out.2.2⟩
            | exact ⟨_, _, rfl, rfl, T2.out.2.1, T2.out.1, T2.out.2.2⟩
      case rest =>
        obtain ⟨g1, g2, rfl, rfl, HT⟩ := hcut
        obtain ⟨⟨a1, a2, a3⟩, ⟨b1, b2, b3⟩, hbx⟩ := HT.out
        have HBN : Hid (Below w.heap.size w wc) := HBX.out.trans (hbx.mono HBX.out.size)
        unfold Near at na nb
        have m1 := mul_near na.1 nb.2
        have m2 := mul_near nb.1 na.2
        obtain ⟨p, hp⟩ : ∃ p, x.1 * y.2 = p := ⟨_, rfl⟩
        obtain ⟨q, hq⟩ : ∃ q, y.1 * x.2 = q := ⟨_, rfl⟩
        rw [hp] at m1 HST
        rw [hq] at m2 HST
        have w1 : IntKind.i64.wrap (x.1 * y.2) = p := by rw [hp]; exact wrap_in (by omega) (by omega)
        have w2 : IntKind.i64.wrap (y.1 * x.2) = q := by rw [hq]; exact wrap_in (by omega) (by omega)
        clear hp hq na nb hbx HT c0 c1 d0 d1
        go_wp2
        go_roundw
        case rel => exact ⟨k + 1, _, by omega, by go_num, rfl, HST.out.symm, HBN.out⟩
        case measure => simp [intOf]; omega
    · obtain rfl : k = n := by omega
      have HFF : Hid (r = s) := by show _ = _; rw [HF.out, HS.out]
      clear HF HS
      go_wp2
      go_ret
      exact ⟨ret_int HFF.out.symm, HBX.out⟩
end Go.Proofs.Ytcoffankmmjehaa
