/- The walk of the law CellsAlgebra. -/
import Derived.Test.YtpbednjnompefaaSlG
namespace Go.Proofs.Ytpbednjnompefaa.cellsAlgebra
open Go.RowKit Go.Lib Go.Sort

theorem mem_union {a b : List Int} (h : a.length + b.length ≤ 20000) (x : Int) : x ∈ unionL a b ↔ x ∈ a ∨ x ∈ b := by
  rw [unionL_small h, setF_mem, List.mem_append]
theorem mem_meet {a b : List Int} (ha : a.length ≤ 20000) (hb : b.length ≤ 20000) (x : Int) : x ∈ sideL (fun x => hasF (setF b) x) a b ↔ x ∈ a ∧ x ∈ b := by
  rw [sideL_small ha hb, List.mem_filter, setF_mem, hasF_iff, setF_mem]
theorem mem_minus {a b : List Int} (ha : a.length ≤ 20000) (hb : b.length ≤ 20000) (x : Int) : x ∈ sideL (fun x => !hasF (setF b) x) a b ↔ x ∈ a ∧ ¬ x ∈ b := by
  rw [sideL_small ha hb, List.mem_filter, setF_mem, Bool.not_eq_true', ← Bool.not_eq_true, hasF_iff, setF_mem]
theorem up_union {a b : List Int} (h : a.length + b.length ≤ 20000) : Up (unionL a b) := by
  rw [unionL_small h]; exact setF_up _
theorem up_side (p : Int → Bool) {a b : List Int} (ha : a.length ≤ 20000) (hb : b.length ≤ 20000) : Up (sideL p a b) := by
  rw [sideL_small ha hb]; exact filter_up (setF_up _) _
theorem nil_of {l : List Int} (h : ∀ x, ¬ x ∈ l) : l = [] := List.eq_nil_iff_forall_not_mem.2 h

def Alg (lu lv lal lsa lne lx ly lp lq lbo lsc : List Int) : Prop := lu = lv ∧ lal = lsa ∧ lne = [] ∧ lx = ly ∧ lp = lq ∧ lbo = [] ∧ lsc = lsa
theorem alg {la lb lc lu lv lm ln lal lne lx lbc ly lp lac lq lbo lsa lsc : List Int} (ha : la.length ≤ 150) (hb : lb.length ≤ 150) (hc : lc.length ≤ 150)
    (Eu : unionL la lb = lu) (Ev : unionL lb la = lv) (Em : sideL (fun x => hasF (setF lb) x) la lb = lm) (En : sideL (fun x => !hasF (setF lb) x) la lb = ln) (Eal : unionL lm ln = lal) (Ene : sideL (fun x => !hasF (setF la) x) la la = lne) (Ex : unionL lu lc = lx) (Ebc : unionL lb lc = lbc) (Ey : unionL la lbc = ly) (Ep : sideL (fun x => hasF (setF lbc) x) la lbc = lp) (Eac : sideL (fun x => hasF (setF lc) x) la lc = lac) (Eq : unionL lm lac = lq) (Ebo : sideL (fun x => hasF (setF ln) x) lm ln = lbo) (Esa : setF la = lsa) (Esc : setF lsa = lsc) :
    Alg lu lv lal lsa lne lx ly lp lq lbo lsc := by
  have su : lu.length ≤ la.length + lb.length := by rw [← Eu]; exact unionL_length
  have sbc : lbc.length ≤ lb.length + lc.length := by rw [← Ebc]; exact unionL_length
  have sm : lm.length ≤ la.length := by rw [← Em]; exact sideL_length _ _ _
  have sn : ln.length ≤ la.length := by rw [← En]; exact sideL_length _ _ _
  have sac : lac.length ≤ la.length := by rw [← Eac]; exact sideL_length _ _ _
  have mu : ∀ x, x ∈ lu ↔ x ∈ la ∨ x ∈ lb := fun x => by rw [← Eu]; exact mem_union (by omega) x
  have mbc : ∀ x, x ∈ lbc ↔ x ∈ lb ∨ x ∈ lc := fun x => by rw [← Ebc]; exact mem_union (by omega) x
  have mm : ∀ x, x ∈ lm ↔ x ∈ la ∧ x ∈ lb := fun x => by rw [← Em]; exact mem_meet (by omega) (by omega) x
  have mn : ∀ x, x ∈ ln ↔ x ∈ la ∧ ¬ x ∈ lb := fun x => by rw [← En]; exact mem_minus (by omega) (by omega) x
  have mac : ∀ x, x ∈ lac ↔ x ∈ la ∧ x ∈ lc := fun x => by rw [← Eac]; exact mem_meet (by omega) (by omega) x
  refine ⟨?_, ?_, ?_, ?_, ?_, ?_, ?_⟩
  · rw [← Eu, ← Ev]
    refine (up_union (by omega)).ext (up_union (by omega)) fun x => ?_
    rw [mem_union (by omega), mem_union (by omega)]
    exact Or.comm
  · rw [← Eal, ← Esa]
    refine (up_union (by omega)).ext (setF_up _) fun x => ?_
    rw [mem_union (by omega), setF_mem, mm, mn]
    by_cases h : x ∈ lb <;> simp [h]
  · rw [← Ene]
    refine nil_of fun x => ?_
    rw [mem_minus (by omega) (by omega)]
    exact fun h => h.2 h.1
  · rw [← Ex, ← Ey]
    refine (up_union (by omega)).ext (up_union (by omega)) fun x => ?_
    rw [mem_union (by omega), mem_union (by omega), mu, mbc]
    exact or_assoc
  · rw [← Ep, ← Eq]
    refine (up_side _ (by omega) (by omega)).ext (up_union (by omega)) fun x => ?_
    rw [mem_meet (by omega) (by omega), mem_union (by omega), mbc, mm, mac]
    exact and_or_left
  · rw [← Ebo]
    refine nil_of fun x => ?_
    rw [mem_meet (by omega) (by omega), mm, mn]
    exact fun h => h.2.2 h.1.2
  · rw [← Esc, ← Esa]
    exact setF_up_eq (setF_up _)

theorem same_true {w : World} {L : List Ent} (H : Env w L) {ao bo : Option Addr} {n c m d y z : Nat} {a b : List Int} (ha : (ao, n, c, y, a) ∈ L) (hb : (bo, m, d, z, b) ∈ L) (hy : y ≤ 1000000) (e : a = b) :
    Calls Try.prog 15 #[.slice ao n c, .slice bo m d] w fun e w' => e = .returned (.bool true) ∧ Env w' L ∧ Below w.heap.size w w' := by
  have h := same_env H ha hb hy
  rw [decide_eq_true e] at h
  exact h

set_option maxRecDepth 100000 in
set_option maxHeartbeats 4000000 in
theorem core (oa ob oc : Option Addr) (ca cb cc : Nat) (la lb lc : List Int) (w : World) (ha : WordsAt w w.heap.size oa la) (hb : WordsAt w w.heap.size ob lb) (hc : WordsAt w w.heap.size oc lc)
    (za : oa = none → la.length = 0 ∧ ca = 0) (zb : ob = none → lb.length = 0 ∧ cb = 0) (zc : oc = none → lc.length = 0 ∧ cc = 0) (hna : la.length ≤ 17592186044404) (hnb : lb.length ≤ 17592186044404) (hnc : lc.length ≤ 17592186044404) :
    Calls Try.prog 5 #[.slice oa la.length ca, .slice ob lb.length cb, .slice oc lc.length cc] w fun e w' => e = .returned (.bool true) ∧ Below w.heap.size w w' := by
  have HAW := Lib.hid awake7_any
  by_cases hbig : 150 < la.length ∨ 150 < lb.length ∨ 150 < lc.length
  · obtain ⟨na, hna'⟩ : ∃ n, la.length = n := ⟨_, rfl⟩
    obtain ⟨nb, hnb'⟩ : ∃ n, lb.length = n := ⟨_, rfl⟩
    obtain ⟨nc, hnc'⟩ : ∃ n, lc.length = n := ⟨_, rfl⟩
    rw [hna', hnb', hnc'] at hbig ⊢
    rw [hna'] at hna
    rw [hnb'] at hnb
    rw [hnc'] at hnc
    clear ha hb hc za zb zc hna' hnb' hnc'
    by_cases h1 : 150 < na
    · have q1 : decide (150 < (na : Int)) = true := by simp; omega
      clear hbig
      go_enter Try.func5, Try.ntmps5
      go_wp2_with fail
      refine (HAW.out _).mono ?_
      rintro e w1 ⟨rfl, hb1⟩
      go_wp2
      go_ret
      exact ⟨rfl, hb1⟩
    · have q1 : decide (150 < (na : Int)) = false := by simp; omega
      by_cases h2 : 150 < nb
      · have q2 : decide (150 < (nb : Int)) = true := by simp; omega
        clear hbig
        go_enter Try.func5, Try.ntmps5
        go_wp2_with fail
        refine (HAW.out _).mono ?_
        rintro e w1 ⟨rfl, hb1⟩
        go_wp2
        go_ret
        exact ⟨rfl, hb1⟩
      · have q2 : decide (150 < (nb : Int)) = false := by simp; omega
        have q3 : decide (150 < (nc : Int)) = true := by simp; omega
        clear hbig
        go_enter Try.func5, Try.ntmps5
        go_wp2_with fail
        refine (HAW.out _).mono ?_
        rintro e w1 ⟨rfl, hb1⟩
        go_wp2
        go_ret
        exact ⟨rfl, hb1⟩
  · have sa : la.length ≤ 150 := by omega
    have sb : lb.length ≤ 150 := by omega
    have sc : lc.length ≤ 150 := by omega
    clear hbig hna hnb hnc
    obtain ⟨lu, Eu⟩ : ∃ l, unionL la lb = l := ⟨_, rfl⟩
    obtain ⟨lv, Ev⟩ : ∃ l, unionL lb la = l := ⟨_, rfl⟩
    obtain ⟨lm, Em⟩ : ∃ l, sideL (fun x => hasF (setF lb) x) la lb = l := ⟨_, rfl⟩
    obtain ⟨ln, En⟩ : ∃ l, sideL (fun x => !hasF (setF lb) x) la lb = l := ⟨_, rfl⟩
    obtain ⟨lal, Eal⟩ : ∃ l, unionL lm ln = l := ⟨_, rfl⟩
    obtain ⟨lne, Ene⟩ : ∃ l, sideL (fun x => !hasF (setF la) x) la la = l := ⟨_, rfl⟩
    obtain ⟨lx, Ex⟩ : ∃ l, unionL lu lc = l := ⟨_, rfl⟩
    obtain ⟨lbc, Ebc⟩ : ∃ l, unionL lb lc = l := ⟨_, rfl⟩
    obtain ⟨ly, Ey⟩ : ∃ l, unionL la lbc = l := ⟨_, rfl⟩
    obtain ⟨lp, Ep⟩ : ∃ l, sideL (fun x => hasF (setF lbc) x) la lbc = l := ⟨_, rfl⟩
    obtain ⟨lac, Eac⟩ : ∃ l, sideL (fun x => hasF (setF lc) x) la lc = l := ⟨_, rfl⟩
    obtain ⟨lq, Eq⟩ : ∃ l, unionL lm lac = l := ⟨_, rfl⟩
    obtain ⟨lbo, Ebo⟩ : ∃ l, sideL (fun x => hasF (setF ln) x) lm ln = l := ⟨_, rfl⟩
    obtain ⟨lsa, Esa⟩ : ∃ l, setF la = l := ⟨_, rfl⟩
    obtain ⟨lsc, Esc⟩ : ∃ l, setF lsa = l := ⟨_, rfl⟩
    have HA := alg sa sb sc Eu Ev Em En Eal Ene Ex Ebc Ey Ep Eac Eq Ebo Esa Esc
    have Huv := Lib.hid HA.1
    have Hals := Lib.hid HA.2.1
    have Hne := Lib.hid (show lne.length = 0 by rw [HA.2.2.1]; rfl)
    have Hxy := Lib.hid HA.2.2.2.1
    have Hpq := Lib.hid HA.2.2.2.2.1
    have Hbo := Lib.hid (show lbo.length = 0 by rw [HA.2.2.2.2.2.1]; rfl)
    have Hscs := Lib.hid HA.2.2.2.2.2.2
    have Eu := Lib.hid Eu
    have Ev := Lib.hid Ev
    have Em := Lib.hid Em
    have En := Lib.hid En
    have Eal := Lib.hid Eal
    have Ene := Lib.hid Ene
    have Ex := Lib.hid Ex
    have Ebc := Lib.hid Ebc
    have Ey := Lib.hid Ey
    have Ep := Lib.hid Ep
    have Eac := Lib.hid Eac
    have Eq := Lib.hid Eq
    have Ebo := Lib.hid Ebo
    have Esa := Lib.hid Esa
    have Esc := Lib.hid Esc
    clear HA
    obtain ⟨na, hna⟩ : ∃ n, la.length = n := ⟨_, rfl⟩
    obtain ⟨nb, hnb⟩ : ∃ n, lb.length = n := ⟨_, rfl⟩
    obtain ⟨nc, hnc⟩ : ∃ n, lc.length = n := ⟨_, rfl⟩
    rw [hna] at sa za ⊢
    rw [hnb] at sb zb ⊢
    rw [hnc] at sc zc ⊢
    have HE0 : Hid (Env w [(oa, na, ca, 150, la), (ob, nb, cb, 150, lb), (oc, nc, cc, 150, lc)]) :=
      (((Env.nil w).cons ⟨hc, hnc, sc, zc⟩).cons ⟨hb, hnb, sb, zb⟩).cons ⟨ha, hna, sa, za⟩
    have HB0 : Hid (Below w.heap.size w w) := Below.refl _ _
    have q1 : decide (150 < (na : Int)) = false := by simp; omega
    have q2 : decide (150 < (nb : Int)) = false := by simp; omega
    have q3 : decide (150 < (nc : Int)) = false := by simp; omega
    clear ha hb hc za zb zc hna hnb hnc sa sb sc
    go_enter Try.func5, Try.ntmps5
    go_wp2_with fail
    refine (union_env (a := la) (b := lb) (y := 150) (z := 150) HE0.out (by simp) (by simp) (by omega)).mono ?_
    rintro e w1 ⟨ou, nu, cu, ru, rfl, -, hE, hb⟩
    rw [Eu.out] at hE
    have HE1 := Lib.hid hE
    have HB1 := Lib.hid (below_later HB0.out HB0.out.size hb)
    clear hE hb HE0 HB0
    go_wp2_with fail
    refine (union_env (a := lb) (b := la) (y := 150) (z := 150) HE1.out (by simp) (by simp) (by omega)).mono ?_
    rintro e w2 ⟨ov, nv, cv, rv, rfl, -, hE, hb⟩
    rw [Ev.out] at hE
    have HE2 := Lib.hid hE
    have HB2 := Lib.hid (below_later HB1.out HB1.out.size hb)
    clear hE hb HE1 HB1
    go_wp2_with fail
    refine (meet_env (a := la) (b := lb) (y := 150) (z := 150) HE2.out (by simp) (by simp) (by omega)).mono ?_
    rintro e w3 ⟨om, nm, cm, rm, rfl, -, hE, hb⟩
    rw [Em.out] at hE
    have HE3 := Lib.hid hE
    have HB3 := Lib.hid (below_later HB2.out HB2.out.size hb)
    clear hE hb HE2 HB2
    go_wp2_with fail
    refine (minus_env (a := la) (b := lb) (y := 150) (z := 150) HE3.out (by simp) (by simp) (by omega)).mono ?_
    rintro e w4 ⟨on, nn, cn, rn, rfl, -, hE, hb⟩
    rw [En.out] at hE
    have HE4 := Lib.hid hE
    have HB4 := Lib.hid (below_later HB3.out HB3.out.size hb)
    clear hE hb HE3 HB3
    go_wp2_with fail
    refine (union_env (a := lm) (b := ln) (y := 150) (z := 150) HE4.out (by simp) (by simp) (by omega)).mono ?_
    rintro e w5 ⟨oal, nal, cal, ral, rfl, -, hE, hb⟩
    rw [Eal.out] at hE
    have HE5 := Lib.hid hE
    have HB5 := Lib.hid (below_later HB4.out HB4.out.size hb)
    clear hE hb HE4 HB4
    go_wp2_with fail
    refine (minus_env (a := la) (b := la) (y := 150) (z := 150) HE5.out (by simp) (by simp) (by omega)).mono ?_
    rintro e w6 ⟨one, nne, cne, rne, rfl, hn, hE, hb⟩
    rw [Ene.out] at hE hn
    rw [Hne.out] at hn
    obtain rfl : nne = 0 := hn
    have HE6 := Lib.hid hE
    have HB6 := Lib.hid (below_later HB5.out HB5.out.size hb)
    clear hE hb HE5 HB5
    go_wp2_with fail
    refine (union_env (a := lu) (b := lc) (y := 300) (z := 150) HE6.out (by simp) (by simp) (by omega)).mono ?_
    rintro e w7 ⟨ox, nx, cx, rx, rfl, -, hE, hb⟩
    rw [Ex.out] at hE
    have HE7 := Lib.hid hE
    have HB7 := Lib.hid (below_later HB6.out HB6.out.size hb)
    clear hE hb HE6 HB6
    go_wp2_with fail
    refine (union_env (a := lb) (b := lc) (y := 150) (z := 150) HE7.out (by simp) (by simp) (by omega)).mono ?_
    rintro e w8 ⟨obc, nbc, cbc, rbc, rfl, -, hE, hb⟩
    rw [Ebc.out] at hE
    have HE8 := Lib.hid hE
    have HB8 := Lib.hid (below_later HB7.out HB7.out.size hb)
    clear hE hb HE7 HB7
    go_wp2_with fail
    refine (union_env (a := la) (b := lbc) (y := 150) (z := 300) HE8.out (by simp) (by simp) (by omega)).mono ?_
    rintro e w9 ⟨oy, ny, cy, ry, rfl, -, hE, hb⟩
    rw [Ey.out] at hE
    have HE9 := Lib.hid hE
    have HB9 := Lib.hid (below_later HB8.out HB8.out.size hb)
    clear hE hb HE8 HB8
    go_wp2_with fail
    refine (meet_env (a := la) (b := lbc) (y := 150) (z := 300) HE9.out (by simp) (by simp) (by omega)).mono ?_
    rintro e w10 ⟨op, np, cp, rp, rfl, -, hE, hb⟩
    rw [Ep.out] at hE
    have HE10 := Lib.hid hE
    have HB10 := Lib.hid (below_later HB9.out HB9.out.size hb)
    clear hE hb HE9 HB9
    go_wp2_with fail
    refine (meet_env (a := la) (b := lc) (y := 150) (z := 150) HE10.out (by simp) (by simp) (by omega)).mono ?_
    rintro e w11 ⟨oac, nac, cac, rac, rfl, -, hE, hb⟩
    rw [Eac.out] at hE
    have HE11 := Lib.hid hE
    have HB11 := Lib.hid (below_later HB10.out HB10.out.size hb)
    clear hE hb HE10 HB10
    go_wp2_with fail
    refine (union_env (a := lm) (b := lac) (y := 150) (z := 150) HE11.out (by simp) (by simp) (by omega)).mono ?_
    rintro e w12 ⟨oq, nq, cq, rq, rfl, -, hE, hb⟩
    rw [Eq.out] at hE
    have HE12 := Lib.hid hE
    have HB12 := Lib.hid (below_later HB11.out HB11.out.size hb)
    clear hE hb HE11 HB11
    go_wp2_with fail
    refine (meet_env (a := lm) (b := ln) (y := 150) (z := 150) HE12.out (by simp) (by simp) (by omega)).mono ?_
    rintro e w13 ⟨obo, nbo, cbo, rbo, rfl, hn, hE, hb⟩
    rw [Ebo.out] at hE hn
    rw [Hbo.out] at hn
    obtain rfl : nbo = 0 := hn
    have HE13 := Lib.hid hE
    have HB13 := Lib.hid (below_later HB12.out HB12.out.size hb)
    clear hE hb HE12 HB12
    go_wp2_with fail
    refine (same_true (a := lu) (b := lv) (y := 300) (z := 300) HE13.out (by simp) (by simp) (by decide) Huv.out).mono ?_
    rintro e w14 ⟨rfl, hE, hb⟩
    have HE14 := Lib.hid hE
    have HB14 := Lib.hid (below_later HB13.out HB13.out.size hb)
    clear hE hb HE13 HB13
    go_wp2_with fail
    refine (set_env (a := la) (y := 150) HE14.out (by simp) (by decide)).mono ?_
    rintro e w15 ⟨osa, nsa, csa, rfl, -, hE, hb⟩
    rw [Esa.out] at hE
    have HE15 := Lib.hid hE
    have HB15 := Lib.hid (below_later HB14.out HB14.out.size hb)
    clear hE hb HE14 HB14
    go_wp2_with fail
    refine (same_true (a := lal) (b := lsa) (y := 300) (z := 150) HE15.out (by simp) (by simp) (by decide) Hals.out).mono ?_
    rintro e w16 ⟨rfl, hE, hb⟩
    have HE16 := Lib.hid hE
    have HB16 := Lib.hid (below_later HB15.out HB15.out.size hb)
    clear hE hb HE15 HB15
    go_wp2_with fail
    refine (same_true (a := lx) (b := ly) (y := 450) (z := 450) HE16.out (by simp) (by simp) (by decide) Hxy.out).mono ?_
    rintro e w17 ⟨rfl, hE, hb⟩
    have HE17 := Lib.hid hE
    have HB17 := Lib.hid (below_later HB16.out HB16.out.size hb)
    clear hE hb HE16 HB16
    go_wp2_with fail
    refine (same_true (a := lp) (b := lq) (y := 150) (z := 300) HE17.out (by simp) (by simp) (by decide) Hpq.out).mono ?_
    rintro e w18 ⟨rfl, hE, hb⟩
    have HE18 := Lib.hid hE
    have HB18 := Lib.hid (below_later HB17.out HB17.out.size hb)
    clear hE hb HE17 HB17
    go_wp2_with fail
    refine (set_env (a := la) (y := 150) HE18.out (by simp) (by decide)).mono ?_
    rintro e w19 ⟨osb, nsb, csb, rfl, -, hE, hb⟩
    rw [Esa.out] at hE
    have HE19 := Lib.hid hE
    have HB19 := Lib.hid (below_later HB18.out HB18.out.size hb)
    clear hE hb HE18 HB18
    go_wp2_with fail
    refine (set_env (a := lsa) (y := 150) HE19.out (by simp) (by decide)).mono ?_
    rintro e w20 ⟨osc, nsc, csc, rfl, -, hE, hb⟩
    rw [Esc.out] at hE
    have HE20 := Lib.hid hE
    have HB20 := Lib.hid (below_later HB19.out HB19.out.size hb)
    clear hE hb HE19 HB19
    go_wp2_with fail
    refine (set_env (a := la) (y := 150) HE20.out (by simp) (by decide)).mono ?_
    rintro e w21 ⟨osd, nsd, csd, rfl, -, hE, hb⟩
    rw [Esa.out] at hE
    have HE21 := Lib.hid hE
    have HB21 := Lib.hid (below_later HB20.out HB20.out.size hb)
    clear hE hb HE20 HB20
    go_wp2_with fail
    refine (same_true (a := lsc) (b := lsa) (y := 150) (z := 150) HE21.out (by simp) (by simp) (by decide) Hscs.out).mono ?_
    rintro e w22 ⟨rfl, hE, hb⟩
    have HE22 := Lib.hid hE
    have HB22 := Lib.hid (below_later HB21.out HB21.out.size hb)
    clear hE hb HE21 HB21
    go_wp2_with fail
    refine (HAW.out _).mono ?_
    rintro e w23 ⟨rfl, hb⟩
    have hb2 := below_later HB22.out HB22.out.size hb
    clear hb
    go_wp2
    go_ret
    exact ⟨rfl, hb2⟩

theorem walk {w : World} (a0 : Option Addr) (n0 c0 : Nat) (z0 : Nat → Int) (h0 : IntsAtK .u64 w w.heap.size a0 n0 z0) (_b0 : ∀ i, i < n0 → (Lit.int .u64 (z0 i)).wf = true) (s0 : n0 * 8 ≤ 140737488351232) (o0 : a0 = none → n0 = 0 ∧ c0 = 0)
    (a1 : Option Addr) (n1 c1 : Nat) (z1 : Nat → Int) (h1 : IntsAtK .u64 w w.heap.size a1 n1 z1) (_b1 : ∀ i, i < n1 → (Lit.int .u64 (z1 i)).wf = true) (s1 : n1 * 8 ≤ 140737488351232) (o1 : a1 = none → n1 = 0 ∧ c1 = 0)
    (a2 : Option Addr) (n2 c2 : Nat) (z2 : Nat → Int) (h2 : IntsAtK .u64 w w.heap.size a2 n2 z2) (_b2 : ∀ i, i < n2 → (Lit.int .u64 (z2 i)).wf = true) (s2 : n2 * 8 ≤ 140737488351232) (o2 : a2 = none → n2 = 0 ∧ c2 = 0) :
    Calls Try.prog 5 #[.slice a0 n0 c0, .slice a1 n1 c1, .slice a2 n2 c2] w fun e w' => e = .returned (.bool true) ∧ Below w.heap.size w w' := by
  have h := core a0 a1 a2 c0 c1 c2 ((List.range n0).map z0) ((List.range n1).map z1) ((List.range n2).map z2) w (words_of_ints h0) (words_of_ints h1) (words_of_ints h2) (by simpa using o0) (by simpa using o1) (by simpa using o2) (by simp; omega) (by simp; omega) (by simp; omega)
  simpa using h
end Go.Proofs.Ytpbednjnompefaa.cellsAlgebra
