/- The law CellsChecks: its walk (under way). The first fault of a list is told; words are grouped by their parents. -/
import Derived.Test.YtkjfdaleamonaaaGreatPackAG
namespace Go.Proofs.YtkjfdaleamonaaaGreat.cellsChecks
open Go.RowKit Go.Lib Wd

/-- What is known of a word's parent. -/
theorem par_kid7 {R : Nat} {z : E2} (hz : okB R z = true) (hR : 0 < R) : ∃ (P : Nat) (p : E2) (r : Nat), R = r + 1 ∧ P = wordN r p ∧ okB r p = true ∧ r + 1 ≤ 12 ∧ parE (wordN R z) = 0 ∧ parW (wordN R z) = P := by
  obtain ⟨r, rfl⟩ : ∃ r, R = r + 1 := ⟨R - 1, by omega⟩
  obtain ⟨hr, -⟩ := okB_parts hz
  have e := par_kid hr (up_ok hz) (digE_lt z)
  rw [down_up z] at e
  exact ⟨_, upE z, r, rfl, rfl, up_ok hz, hr, e.1, e.2⟩
theorem par_top {z : E2} (hz : okB (0 : Nat) z = true) : parE (wordN 0 z) = 3 := by
  obtain ⟨a1, a2, -⟩ := word_cell hz
  unfold parE
  rw [if_pos a1, if_pos a2]
theorem par_kinds (u : Nat) : (parE u = 5 ∧ isW u = false) ∨ (parE u = 3 ∧ isW u = true) ∨ (parE u = 0 ∧ isW u = true) := by
  unfold parE
  by_cases h : isW u = true
  · by_cases h2 : rW u = 0
    · exact .inr (.inl ⟨by simp [h, h2], h⟩)
    · exact .inr (.inr ⟨by simp [h, h2], h⟩)
  · exact .inl ⟨by simp [h], by simpa using h⟩
theorem kid_walks {R : Nat} {z : E2} (hz : okB R z = true) (hR : 0 < R) : ∃ (P : Nat) (p : E2) (r : Nat), r + 1 ≤ 12 ∧
    Hid (∀ w, Calls Tryz.prog 15 #[.int .u64 (wordN R z : Nat)] w fun e w' => e = .returned (.tuple #[.int .u64 P, .int .i64 0]) ∧ Below w.heap.size w w') ∧
    Hid (∀ w, Calls Tryz.prog 16 #[.int .u64 P] w fun e w' => e = .returned (.tuple #[vC r p, .int .i64 0]) ∧ Below w.heap.size w w') ∧
    Hid (∀ w, Calls Tryz.prog 17 #[vC r p] w (ToldN w (kidsL r p) 0)) ∧
    Hid (∀ d, d < 7 → cg (kidsL r p) d = (((r + 1 : Nat) : Int), downE p d)) ∧
    Hid ((kidsL r p).length = 7) ∧
    Hid (∀ d, d < 7 → ∀ w, Calls Tryz.prog 18 #[vC (r + 1 : Nat) (downE p d)] w fun e w' => e = .returned (.tuple #[.int .u64 (wordN (r + 1) (downE p d) : Nat), .int .i64 0]) ∧ Below w.heap.size w w') ∧
    Hid (∀ d, d < 7 → wordN (r + 1) (downE p d) < 18446744073709551616) := by
  obtain ⟨P, p, r, hRr, hP, hok, hr, e1, e2⟩ := par_kid7 hz hR
  obtain ⟨b1, b2, b3⟩ := ofW_ok hok
  obtain ⟨k1, k2, k3⟩ := cv_ok hok
  obtain ⟨d1, d2⟩ := kd_ok hok (by omega)
  refine ⟨P, p, r, hr, fun w => ?_, fun w => ?_, fun w => ?_, fun d h => ?_, ?_, fun d h w => ?_, fun d h => ?_⟩
  · have h := wup_any (wordN R z) (by have := (wordN_lt hz).1; omega) w
    rw [e1, e2] at h
    exact h
  · have h := rcell_any _ b3 w
    rw [k1, k2, k3, b1, ← hP] at h
    exact h
  · have h := rkids_new r p w
    rw [d1, d2] at h
    exact h
  · rw [kidsL_get _ _ h]; rfl
  · show _ = _; unfold kidsL; simp
  · have hk := kid_ok hok hr h
    obtain ⟨f1, f2, f3⟩ := ofW_ok hk
    have h2 := word_any (r + 1 : Nat) (downE p d) w
    rw [f1, f2] at h2
    exact h2
  · have := (wordN_lt (kid_ok hok hr h)).1
    omega
theorem top_walk {z : E2} (hz : okB (0 : Nat) z = true) (w : World) :
    Calls Tryz.prog 15 #[.int .u64 (wordN 0 z : Nat)] w fun e w' => e = .returned (.tuple #[.int .u64 (parW (wordN 0 z) : Nat), .int .i64 3]) ∧ Below w.heap.size w w' := by
  have h := wup_any (wordN 0 z) (by have := (wordN_lt hz).1; omega) w
  rw [par_top hz] at h
  exact h
/-- A word more in the last row of a row of rows, written through its place. -/
theorem more_all {w1 w2 w3 : World} {B g q' vc ml xc xg xcap : Nat} {xo : Option Addr} {vs' : List Value} {G' : List (List Int)} {l' : List Int} {u : Int}
    (hG : Gr w2.drew B (.slice (some ⟨g, 0, none⟩) (q' + 1) vc) (vs' ++ [.slice xo l'.length xc]) (G' ++ [l'])) (hB : Below B w1 w2.drew) (hq : vs'.length = q') (hm : l'.length = ml) (hBg : B ≤ g) (hs2 : B ≤ w2.drew.heap.size)
    (h1 : w3.ownsRow B 25 1 (.slice (some ⟨xg, 0, none⟩) (ml + 1) xcap) (ml + 1) (uV l' ++ [.int .u64 u])) (hg : (w2.drew.alloc (.cells #[.int .u64 u] 25)).grownBy w3 (Value.slice xo ml xc).ownBlock)
    (hat : (Value.slice xo ml xc).ownBlock = some xg ∨ xg = (w2.drew.alloc (.cells #[.int .u64 u] 25)).heap.size) :
    w3.cell? ⟨g, q', none⟩ = some (.slice xo ml xc) ∧ w3.frozen? ⟨g, q', none⟩ = false ∧ g < w3.heap.size ∧
      (Gr (w3.setCell ⟨g, q', none⟩ (.slice (some ⟨xg, 0, none⟩) (ml + 1) xcap)) B (.slice (some ⟨g, 0, none⟩) (q' + 1) vc) (vs' ++ [.slice (some ⟨xg, 0, none⟩) (ml + 1) xcap]) (G' ++ [l' ++ [u]]) ∧ Below B w1 (w3.setCell ⟨g, q', none⟩ (.slice (some ⟨xg, 0, none⟩) (ml + 1) xcap))) := by
  subst hm
  have hx := hG.2.1.last.2
  obtain ⟨hm1, hm2⟩ := hG.more h1 hg (hat.elim (fun e => .inl e.symm) (fun e => .inr (congrArg some e)))
  rw [hq] at hm1 hm2
  have hb3 := below_append (hB.alloc hs2 (.cells #[.int .u64 u] 25)) (hx.alloc (.cells #[.int .u64 u] 25)) (by rw [World.size_alloc]; omega) hg
  obtain ⟨cur, hh, -, -, -, -, -⟩ := own_block hm2
  have k1 := hm2.cellAt q' (by omega)
  rw [show (vs' ++ [Value.slice xo l'.length xc])[q']? = some (.slice xo l'.length xc) by rw [← hq]; simp] at k1
  exact ⟨k1, by simp [World.frozen?, hh], (Array.getElem?_eq_some_iff.1 hh).1, hm1, below_set hb3 hBg _ _⟩
set_option maxRecDepth 100000 in
set_option maxHeartbeats 8000000 in
theorem walk {w : World} (a0 : Option Addr) (n0 c0 : Nat) (z0 : Nat → Int) (h0 : IntsAtK .u64 w w.heap.size a0 n0 z0) (b0 : ∀ i, i < n0 → (Lit.int .u64 (z0 i)).wf = true) (_s0 : n0 * 8 ≤ 140737488351232) (o0 : a0 = none → n0 = 0 ∧ c0 = 0)
    (a1 : Option Addr) (n1 c1 : Nat) (z1 : Nat → Int) (h1 : IntsAtK .i64 w w.heap.size a1 n1 z1) (_b1 : ∀ i, i < n1 → (Lit.int .i64 (z1 i)).wf = true) (_s1 : n1 * 8 ≤ 140737488351232)
    (a2 : Int) (_w2 : (Lit.int .i64 a2).wf = true) (kids : Bool) :
    Calls Tryz.prog 3 #[.slice a0 n0 c0, .slice a1 n1 c1, .int .i64 a2, .bool kids] w fun e w' => e = .returned (.bool true) ∧ Below w.heap.size w w' := by
  obtain ⟨i0, hi, hz0, hz1, hz2⟩ := info_parts info_u
  have HAW := Lib.hid awake7_any
  by_cases hbig : 60 < n0 ∨ 60 < n1
  · rcases (show 60 < n0 ∨ (¬ 60 < n0 ∧ 60 < n1) by omega) with h | ⟨h, h'⟩
    · have q1 : decide (60 < (n0 : Int)) = true := decide_eq_true (by omega)
      have q1n : decide (60 < n0) = true := decide_eq_true (by omega)
      clear hbig h0 h1
      go_enter Tryz.func3, Tryz.ntmps3
      go_wp2_with fail
      refine (HAW.out _).mono ?_
      rintro e w1 ⟨rfl, hb1⟩
      have B1 := Lib.hid hb1
      clear hb1
      go_wp2
      go_ret
      exact ⟨rfl, B1.out⟩
    · have q1 : decide (60 < (n0 : Int)) = false := decide_eq_false (by omega)
      have q1n : decide (60 < n0) = false := decide_eq_false (by omega)
      have q2 : decide (60 < (n1 : Int)) = true := decide_eq_true (by omega)
      have q2n : decide (60 < n1) = true := decide_eq_true (by omega)
      clear hbig h0 h1
      go_enter Tryz.func3, Tryz.ntmps3
      go_wp2_with fail
      refine (HAW.out _).mono ?_
      rintro e w1 ⟨rfl, hb1⟩
      have B1 := Lib.hid hb1
      clear hb1
      go_wp2
      go_ret
      exact ⟨rfl, B1.out⟩
  · have q1 : decide (60 < (n0 : Int)) = false := decide_eq_false (by omega)
    have q1n : decide (60 < n0) = false := decide_eq_false (by omega)
    have q2 : decide (60 < (n1 : Int)) = false := decide_eq_false (by omega)
    have q2n : decide (60 < n1) = false := decide_eq_false (by omega)
    have hn0 : n0 ≤ 60 := by omega
    have hn1 : n1 ≤ 60 := by omega
    obtain ⟨R, hR, hR12⟩ : ∃ R : Nat, a2 % 13 = R ∧ R ≤ 12 := ⟨(a2 % 13).toNat, by omega, by omega⟩
    obtain ⟨hr2, hr1⟩ := rem13 a2
    rw [hR] at hr1
    have HLW : Hid (∀ x y, ∃ z, okB R z = true ∧ ∀ w, Calls Tryz.prog 14 #[.int .i64 x, .int .i64 y, .int .i64 a2] w fun e w' => e = .returned (.int .u64 (wordN R z : Nat)) ∧ Below w.heap.size w w') := fun x y => ⟨someE x y R, some_ok x y hR12, fun w => by
      have h := lword_any x y a2 w
      rw [hR, Int.toNat_natCast, (ofW_ok (some_ok _ _ hR12)).1] at h
      exact h⟩
    -- the raw list
    obtain ⟨raw, hraw⟩ : ∃ raw, (List.range n0).map z0 = raw := ⟨_, rfl⟩
    have hrl : raw.length = n0 := by rw [← hraw]; simp
    have hrw : WordsAt w w.heap.size a0 raw := fun hp => by
      obtain ⟨b, off, e, hb, hc⟩ := h0 (by omega)
      refine ⟨b, off, e, hb, fun i hi => ?_⟩
      rw [hc i (by omega), ← hraw, List.getD_eq_getElem?_getD, List.getElem?_map, List.getElem?_range (by omega)]
      rfl
    have hr64 : In64 raw := fun v hv => by
      rw [← hraw] at hv
      obtain ⟨i, hi, rfl⟩ := List.mem_map.1 hv
      have h := b0 i (List.mem_range.1 hi)
      unfold Lit.wf at h
      rw [Bool.and_eq_true, decide_eq_true_eq, decide_eq_true_eq, show IntKind.u64.min = 0 from rfl, show IntKind.u64.max = 18446744073709551615 from rfl] at h
      omega
    have HX := Lib.hid h1
    have HRW := Lib.hid hrw
    have HRL := Lib.hid hrl
    have HR64 := Lib.hid hr64
    obtain ⟨v1, wA, hrA, hA, hgA⟩ := append_words (w := w.alloc (.cells #[] 25)) (base := w.heap.size) (n := 0) (v := .slice (some ⟨w.heap.size, 0, none⟩) 0 0) (xs := []) (l := raw) (ao := a0) (m := n0) (c := c0)
      (World.ownsRow_made w #[] 0 (Nat.le_refl _) (Nat.zero_le _) (by simp)) ((hrw.below ((Below.refl w.heap.size w).alloc (Nat.le_refl _) _) (Nat.le_refl _)).wider (by simp)) hrl o0 (by simp) (by omega)
    rw [Nat.zero_add, List.nil_append] at hA
    have HBA : Hid (Below w.heap.size w wA) := ((Below.refl _ w).alloc (Nat.le_refl _) _).grown hgA (by simp) (by intro k hk; simp [Value.ownBlock] at hk; omega)
    have HOA := Lib.hid hA
    have HR1 := Lib.hid hrA
    clear hrw hrl hr64 h0 h1 b0 hraw hbig hA hgA hrA hR
    obtain ⟨hr3, hr4⟩ := hr2
    obtain ⟨lo0, lc0, rfl, -⟩ := own_form HOA.out
    go_enter Tryz.func3, Tryz.ntmps3
    go_wp2_with (at_builtin; refine wpList_append_want _ (by kernel_rfl) (.tmp 38) (.tmp 39) 22 22 rfl _ _ rfl rfl _ _ HR1.out ?_)
    clear HR1
    go_loopw [9, 10] (fun lv i wr => ∃ (E : List Int) (m I : Nat) (lo : Option Addr) (lc : Nat), m ≤ 121 ∧ I ≤ n1 + 1 ∧ i = .int .i64 I ∧ lv = .slice lo m lc ∧ Hid (m = n0 + E.length ∧ E.length ≤ I ∧ In64 E ∧ wr.ownsRow w.heap.size 25 1 (.slice lo m lc) m (uV (raw ++ E)) ∧ Below w.heap.size w wr)) (fun _ i _ => 64 - (intOf i).toNat)
    case atStart => exact ⟨[], n0, 0, lo0, lc0, by omega, by omega, rfl, rfl, rfl, Nat.le_refl _, fun v hv => by simp at hv, by rw [List.append_nil]; exact HOA.out, HBA.out⟩
    case round =>
      obtain ⟨E, m, I, lo, lc, hm, hIn, rfl, rfl, HI⟩ := hrel
      by_cases hlt : I + 1 < n1
      · have q3 : decide ((I : Int) + 1 < n1) = true := decide_eq_true (by omega)
        obtain ⟨b, off, rfl, hb, hc⟩ := (HX.out.below HI.out.2.2.2.2 (Nat.le_refl _)) (by omega)
        have x0 := hc I (by omega)
        have y0 := hc (I + 1) (by omega)
        generalize z1 I = x at *
        generalize z1 (I + 1) = y at *
        obtain ⟨z, hz, hl⟩ := HLW.out x y
        have HL1 := Lib.hid hl
        have HZ := Lib.hid hz
        have HW64 : Hid (wordN R z < 18446744073709551616) := by show _ < _; have := (wordN_lt hz).1; omega
        obtain ⟨W, hW⟩ : ∃ W, wordN R z = W := ⟨_, rfl⟩
        have HWE := Lib.hid hW
        rw [hW] at HL1 HW64
        have hsz := HI.out.2.2.2.2.size
        have hbw : b < wr.heap.size := by omega
        have HCX : Hid (∀ wx, Below wr.heap.size wr wx → wx.cell? ⟨b, off + I, none⟩ = some (.int .i64 x) ∧ wx.cell? ⟨b, off + (I + 1), none⟩ = some (.int .i64 y)) := fun wx hx => ⟨(hx.cell (p := ⟨b, _, none⟩) hbw).trans x0, (hx.cell (p := ⟨b, _, none⟩) hbw).trans y0⟩
        clear hc hW hl hz
        go_upto_region 7 with (fail)
        clear x0 y0
        refine wp_region_inv (fun w w' => Below w.heap.size w w') (fun qi_ qv_ _ => qv_ = ([.slice (some ⟨b, off, none⟩) n1 c1, .int .i64 I, .pointer (some ⟨b, off + I, none⟩), .int .i64 x, .slice (some ⟨b, off, none⟩) n1 c1, .int .i64 I, .int .i64 ((I + 1 : Nat) : Int), .pointer (some ⟨b, off + (I + 1), none⟩), .int .i64 y, .int .i64 a2, .int .u64 W, .int .u64 W] : List Value).getD qi_ undef) (by kernel_rfl) (by kernel_rfl) (fun _ => Below.refl _ _) (fun _ _ _ h1 h2 => below_later h1 h1.size h2) (fun _ _ _ _ _ _ h => h) ?_
        refine inv_cons (fun wx hg hd => ?_) (fun v0 => ?_)
        · have hx := ((Below.refl wr.heap.size wr).drew).trans hg
          clear hd hg
          go_wp2
          exact ⟨_, rfl, Below.refl _ _, rfl⟩
        (try simp only [List.nil_append, Act.put, List.setIfInBounds_toArray, List.set_cons_zero, List.set_cons_succ])
        refine inv_cons (fun wx hg hd => ?_) (fun v1 => ?_)
        · have hx := ((Below.refl wr.heap.size wr).drew).trans hg
          clear hd hg
          go_wp2
          exact ⟨_, rfl, Below.refl _ _, rfl⟩
        (try simp only [List.cons_append, List.nil_append, Act.put, List.setIfInBounds_toArray, List.set_cons_zero, List.set_cons_succ])
        refine inv_cons (fun wx hg hd => ?_) (fun v2 => ?_)
        · have hx := ((Below.refl wr.heap.size wr).drew).trans hg
          (try (have ee : v0 = (.slice (some ⟨b, off, none⟩) n1 c1 : Value) := hd 0 (by simp) (by decide); subst ee))
          (try (have ee : v1 = (.int .i64 I : Value) := hd 1 (by simp) (by decide); subst ee))
          clear hd hg
          go_wp2
          exact ⟨_, rfl, Below.refl _ _, rfl⟩
        (try simp only [List.cons_append, List.nil_append, Act.put, List.setIfInBounds_toArray, List.set_cons_zero, List.set_cons_succ])
        refine inv_cons (fun wx hg hd => ?_) (fun v3 => ?_)
        · have hx := ((Below.refl wr.heap.size wr).drew).trans hg
          (try (have ee : v2 = (.pointer (some ⟨b, off + I, none⟩) : Value) := hd 2 (by simp) (by decide); subst ee))
          clear hd hg
          obtain ⟨k1, k2⟩ := HCX.out _ hx
          go_wp2
          exact ⟨_, rfl, Below.refl _ _, rfl⟩
        (try simp only [List.cons_append, List.nil_append, Act.put, List.setIfInBounds_toArray, List.set_cons_zero, List.set_cons_succ])
        refine inv_cons (fun wx hg hd => ?_) (fun v4 => ?_)
        · have hx := ((Below.refl wr.heap.size wr).drew).trans hg
          clear hd hg
          go_wp2
          exact ⟨_, rfl, Below.refl _ _, rfl⟩
        (try simp only [List.cons_append, List.nil_append, Act.put, List.setIfInBounds_toArray, List.set_cons_zero, List.set_cons_succ])
        refine inv_cons (fun wx hg hd => ?_) (fun v5 => ?_)
        · have hx := ((Below.refl wr.heap.size wr).drew).trans hg
          clear hd hg
          go_wp2
          exact ⟨_, rfl, Below.refl _ _, rfl⟩
        (try simp only [List.cons_append, List.nil_append, Act.put, List.setIfInBounds_toArray, List.set_cons_zero, List.set_cons_succ])
        refine inv_cons (fun wx hg hd => ?_) (fun v6 => ?_)
        · have hx := ((Below.refl wr.heap.size wr).drew).trans hg
          (try (have ee : v5 = (.int .i64 I : Value) := hd 5 (by simp) (by decide); subst ee))
          clear hd hg
          go_wp2
          exact ⟨_, rfl, Below.refl _ _, by go_num⟩
        (try simp only [List.cons_append, List.nil_append, Act.put, List.setIfInBounds_toArray, List.set_cons_zero, List.set_cons_succ])
        refine inv_cons (fun wx hg hd => ?_) (fun v7 => ?_)
        · have hx := ((Below.refl wr.heap.size wr).drew).trans hg
          (try (have ee : v4 = (.slice (some ⟨b, off, none⟩) n1 c1 : Value) := hd 4 (by simp) (by decide); subst ee))
          (try (have ee : v6 = (.int .i64 ((I + 1 : Nat) : Int) : Value) := hd 6 (by simp) (by decide); subst ee))
          clear hd hg
          go_wp2
          exact ⟨_, rfl, Below.refl _ _, rfl⟩
        (try simp only [List.cons_append, List.nil_append, Act.put, List.setIfInBounds_toArray, List.set_cons_zero, List.set_cons_succ])
        refine inv_cons (fun wx hg hd => ?_) (fun v8 => ?_)
        · have hx := ((Below.refl wr.heap.size wr).drew).trans hg
          (try (have ee : v7 = (.pointer (some ⟨b, off + (I + 1), none⟩) : Value) := hd 7 (by simp) (by decide); subst ee))
          clear hd hg
          obtain ⟨k1, k2⟩ := HCX.out _ hx
          go_wp2
          exact ⟨_, rfl, Below.refl _ _, rfl⟩
        (try simp only [List.cons_append, List.nil_append, Act.put, List.setIfInBounds_toArray, List.set_cons_zero, List.set_cons_succ])
        refine inv_cons (fun wx hg hd => ?_) (fun v9 => ?_)
        · have hx := ((Below.refl wr.heap.size wr).drew).trans hg
          clear hd hg
          go_wp2
          exact ⟨_, rfl, Below.refl _ _, rfl⟩
        (try simp only [List.cons_append, List.nil_append, Act.put, List.setIfInBounds_toArray, List.set_cons_zero, List.set_cons_succ])
        refine inv_cons (fun wx hg hd => ?_) (fun v10 => ?_)
        · have hx := ((Below.refl wr.heap.size wr).drew).trans hg
          (try (have ee : v3 = (.int .i64 x : Value) := hd 3 (by simp) (by decide); subst ee))
          (try (have ee : v8 = (.int .i64 y : Value) := hd 8 (by simp) (by decide); subst ee))
          (try (have ee : v9 = (.int .i64 a2 : Value) := hd 9 (by simp) (by decide); subst ee))
          clear hd hg
          go_wp2_with fail
          refine (HL1.out _).mono ?_
          rintro e w' ⟨rfl, hb⟩
          go_wp2
          exact ⟨_, rfl, hb, rfl⟩
        (try simp only [List.cons_append, List.nil_append, Act.put, List.setIfInBounds_toArray, List.set_cons_zero, List.set_cons_succ])
        refine inv_cons (fun wx hg hd => ?_) (fun v11 => ?_)
        · have hx := ((Below.refl wr.heap.size wr).drew).trans hg
          (try (have ee : v10 = (.int .u64 W : Value) := hd 10 (by simp) (by decide); subst ee))
          clear hd hg
          go_wp2
          exact ⟨_, rfl, Below.refl _ _, rfl⟩
        (try simp only [List.cons_append, List.nil_append, Act.put, List.setIfInBounds_toArray, List.set_cons_zero, List.set_cons_succ])
        refine inv_done (fun wx hg hd => ?_)
        have hx := ((Below.refl wr.heap.size wr).drew).trans hg
        (have ee : v0 = (.slice (some ⟨b, off, none⟩) n1 c1 : Value) := hd 0 (by simp); subst ee)
        (have ee : v1 = (.int .i64 I : Value) := hd 1 (by simp); subst ee)
        (have ee : v2 = (.pointer (some ⟨b, off + I, none⟩) : Value) := hd 2 (by simp); subst ee)
        (have ee : v3 = (.int .i64 x : Value) := hd 3 (by simp); subst ee)
        (have ee : v4 = (.slice (some ⟨b, off, none⟩) n1 c1 : Value) := hd 4 (by simp); subst ee)
        (have ee : v5 = (.int .i64 I : Value) := hd 5 (by simp); subst ee)
        (have ee : v6 = (.int .i64 ((I + 1 : Nat) : Int) : Value) := hd 6 (by simp); subst ee)
        (have ee : v7 = (.pointer (some ⟨b, off + (I + 1), none⟩) : Value) := hd 7 (by simp); subst ee)
        (have ee : v8 = (.int .i64 y : Value) := hd 8 (by simp); subst ee)
        (have ee : v9 = (.int .i64 a2 : Value) := hd 9 (by simp); subst ee)
        (have ee : v10 = (.int .u64 W : Value) := hd 10 (by simp); subst ee)
        (have ee : v11 = (.int .u64 W : Value) := hd 11 (by simp); subst ee)
        clear hd hg
        (try go_simp)
        obtain ⟨hme, hEI, hE64, ho1, hbl⟩ := HI.out
        have ha : Below wr.heap.size wr (wx.alloc (.cells #[.int .u64 W] 25)) := hx.alloc hx.size _
        have k1 := own_later ho1 ha
        have hba := hbl.trans (ha.mono hsz)
        have hown := own_later ho1 hx
        have hzx := hx.size
        clear HCX hx
        cases kids
        all_goals
          go_wp2_with (at_builtin; refine wpList_append_own_at _ rfl (.tmp 59) (.tmp 61) 22 rfl w.heap.size 25 i0 (.int .u64 0) 1 8 Tryz.underlying22 hi hz0 hz1 hz2 rfl (by decide) _ _ _ rfl (hown.alloc _) ⟨wx.heap.size, 0, none⟩ 1 1 [.int .u64 W] rfl rfl (cells_new _ _ _ _ rfl) (by simp [Value.oneCell']) (by unfold maxLen; omega) (by omega) (by simp; omega) ?_; intro v' w3 hown1 hgrow _ hat)
          have hg2 : (wx.alloc (.cells #[.int .u64 (W : Int)] 25)).grownBy w3 (Value.slice lo m lc).ownBlock := hgrow
          obtain ⟨lo', lc', rfl, -⟩ := own_form hown1
          have L3 := hown1
          have e1 : uV (raw ++ E) ++ [Value.int .u64 (W : Int)] = uV (raw ++ (E ++ [(W : Int)])) := by simp [uV]
          rw [e1] at L3
          have B3 := below_append hba k1 (by have := hba.size; omega) hg2
          have HI3 : Hid (m + 1 = n0 + (E ++ [(W : Int)]).length ∧ (E ++ [(W : Int)]).length ≤ I + 1 ∧ In64 (E ++ [(W : Int)]) ∧ w3.ownsRow w.heap.size 25 1 (.slice lo' (m + 1) lc') (m + 1) (uV (raw ++ (E ++ [(W : Int)]))) ∧ Below w.heap.size w w3) := ⟨by simp; omega, by simp; omega, fun v hv => by
            rcases List.mem_append.1 hv with h | h
            · exact hE64 v h
            · rw [List.mem_singleton.1 h]; have := HW64.out; omega, L3, B3⟩
          clear hown1 hgrow hat hg2 e1 L3 B3 ho1 hbl k1 hba hown HI ha hme hEI hE64
          generalize E ++ [(W : Int)] = E1 at *
          have hm1 : m + 1 ≤ 122 := by omega
        · go_roundw
          case rel => exact ⟨E1, m + 1, I + 2, lo', lc', by have := HI3.out.1; have := HI3.out.2.1; omega, by omega, by go_num, rfl, HI3.out.1, by have := HI3.out.2.1; omega, HI3.out.2.2.1, HI3.out.2.2.2.1, HI3.out.2.2.2.2⟩
          case measure => simp [intOf]; omega
        · by_cases hR0 : R = 0
          · have HT : Hid (∀ w, Calls Tryz.prog 15 #[.int .u64 (W : Nat)] w fun e w' => e = .returned (.tuple #[.int .u64 (parW W : Nat), .int .i64 3]) ∧ Below w.heap.size w w') := fun w => by
              have hz := HZ.out
              have he := HWE.out
              rw [hR0] at hz he
              have h := top_walk hz w
              rw [he] at h
              exact h
            generalize parW W = P at *
            clear HZ HWE HW64 HL1
            go_wp2_with fail
            refine (HT.out _).mono ?_
            rintro e w4 ⟨rfl, hb4⟩
            have HI4 : Hid (m + 1 = n0 + E1.length ∧ E1.length ≤ I + 1 ∧ In64 E1 ∧ w4.ownsRow w.heap.size 25 1 (.slice lo' (m + 1) lc') (m + 1) (uV (raw ++ E1)) ∧ Below w.heap.size w w4) := ⟨HI3.out.1, HI3.out.2.1, HI3.out.2.2.1, own_later HI3.out.2.2.2.1 hb4, HI3.out.2.2.2.2.trans (hb4.mono HI3.out.2.2.2.2.size)⟩
            clear hb4 HI3
            go_wp2
            go_roundw
            case rel => exact ⟨E1, m + 1, I + 2, lo', lc', by have := HI4.out.1; have := HI4.out.2.1; omega, by omega, by go_num, rfl, HI4.out.1, by have := HI4.out.2.1; omega, HI4.out.2.2.1, HI4.out.2.2.2.1, HI4.out.2.2.2.2⟩
            case measure => simp [intOf]; omega
          · obtain ⟨P, p, r, hr, KU, KC, KK, KG, KL, KW, K64⟩ := kid_walks HZ.out (by omega)
            rw [HWE.out] at KU
            generalize kidsL (r : Int) p = kl at *
            obtain ⟨d, hd, hd7⟩ : ∃ d : Nat, (I : Int).tmod 7 = d ∧ d < 7 := ⟨I % 7, by rw [Int.tmod_eq_emod_of_nonneg (by omega)]; omega, by omega⟩
            have KG1 := Lib.hid (KG.out d hd7)
            have KW1 := Lib.hid (KW.out d hd7)
            have K641 := Lib.hid (K64.out d hd7)
            generalize wordN (r + 1) (downE p d) = V at *
            generalize downE p d = y at *
            simp only [vC] at *
            clear HZ HWE HW64 HL1 KG KW K64
            go_wp2_with fail
            refine (KU.out _).mono ?_
            rintro e w4 ⟨rfl, hb4⟩
            have HI4 : Hid (m + 1 = n0 + E1.length ∧ E1.length ≤ I + 1 ∧ In64 E1 ∧ w4.ownsRow w.heap.size 25 1 (.slice lo' (m + 1) lc') (m + 1) (uV (raw ++ E1)) ∧ Below w.heap.size w w4) := ⟨HI3.out.1, HI3.out.2.1, HI3.out.2.2.1, own_later HI3.out.2.2.2.1 hb4, HI3.out.2.2.2.2.trans (hb4.mono HI3.out.2.2.2.2.size)⟩
            clear hb4 HI3
            go_wp2_with fail
            refine (KC.out _).mono ?_
            rintro e w5 ⟨rfl, hb4⟩
            have hal : Below w5.heap.size w5 (w5.alloc (.cells #[.int .i64 r, .int .i64 p.1, .int .i64 p.2] 32)) := (Below.refl _ _).alloc (Nat.le_refl _) _
            have hb5 := hb4.trans (hal.mono hb4.size)
            have HI5 : Hid (m + 1 = n0 + E1.length ∧ E1.length ≤ I + 1 ∧ In64 E1 ∧ (w5.alloc (.cells #[.int .i64 r, .int .i64 p.1, .int .i64 p.2] 32)).ownsRow w.heap.size 25 1 (.slice lo' (m + 1) lc') (m + 1) (uV (raw ++ E1)) ∧ Below w.heap.size w (w5.alloc (.cells #[.int .i64 r, .int .i64 p.1, .int .i64 p.2] 32))) := ⟨HI4.out.1, HI4.out.2.1, HI4.out.2.2.1, own_later HI4.out.2.2.2.1 hb5, HI4.out.2.2.2.2.trans (hb5.mono HI4.out.2.2.2.2.size)⟩
            have T5 : Hid (Tri (w5.alloc (.cells #[.int .i64 r, .int .i64 p.1, .int .i64 p.2] 32)) w5.heap.size r p) := heap_new _ _ _ rfl
            clear hb4 hb5 hal HI4
            go_upto_region 13 with (fail)
            generalize w5.alloc (.cells #[.int .i64 r, .int .i64 p.1, .int .i64 p.2] 32) = w6 at *
            obtain ⟨t0, t1, t2, t3, t4, t5, t6⟩ := T5.out.cells
            go_wp2_with fail
            refine (KK.out _).mono ?_
            rintro e w7 ⟨qo, qc, rfl, hq, hb6, hqn⟩
            rw [KL.out]
            have HI7 : Hid (m + 1 = n0 + E1.length ∧ E1.length ≤ I + 1 ∧ In64 E1 ∧ w7.ownsRow w.heap.size 25 1 (.slice lo' (m + 1) lc') (m + 1) (uV (raw ++ E1)) ∧ Below w.heap.size w w7) := ⟨HI5.out.1, HI5.out.2.1, HI5.out.2.2.1, own_later HI5.out.2.2.2.1 hb6, HI5.out.2.2.2.2.trans (hb6.mono HI5.out.2.2.2.2.size)⟩
            obtain ⟨g, off2, rfl, hg, hcc⟩ := hq (by rw [KL.out]; omega)
            obtain ⟨c0', c1', c2'⟩ := hcc d (by rw [KL.out]; exact hd7)
            rw [KG1.out] at c0' c1' c2'
            simp only at c0' c1' c2'
            clear hcc hb6 hqn HI5 t0 t1 t2 t3 t4 t5 t6 T5 hq
            go_wp2_with fail
            refine (KW1.out _).mono ?_
            rintro e w8 ⟨rfl, hb8⟩
            have hz8 := hb8.size
            obtain ⟨-, -, -, ho1, hbl⟩ := HI7.out
            have hs7 := hbl.size
            have hal : Below w8.heap.size w8 (w8.alloc (.cells #[.int .u64 V] 25)) := (Below.refl _ _).alloc (Nat.le_refl _) _
            have hb9 := hb8.trans (hal.mono hb8.size)
            have k1 := own_later ho1 hb9
            have hba := hbl.trans (hb9.mono hbl.size)
            have hown := own_later ho1 hb8
            clear hb8 hal hb9 c0' c1' c2'
            go_wp2_with (at_builtin; refine wpList_append_own_at _ rfl (.tmp 90) (.tmp 92) 22 rfl w.heap.size 25 i0 (.int .u64 0) 1 8 Tryz.underlying22 hi hz0 hz1 hz2 rfl (by decide) _ _ _ rfl (hown.alloc _) ⟨w8.heap.size, 0, none⟩ 1 1 [.int .u64 V] rfl rfl (cells_new _ _ _ _ rfl) (by simp [Value.oneCell']) (by unfold maxLen; omega) (by omega) (by simp; omega) ?_; intro v' w9 hown1 hgrow _ hat)
            have hg2 : (w8.alloc (.cells #[.int .u64 (V : Int)] 25)).grownBy w9 (Value.slice lo' (m + 1) lc').ownBlock := hgrow
            obtain ⟨lo2, lc2, rfl, -⟩ := own_form hown1
            have L3 := hown1
            have e1 : uV (raw ++ E1) ++ [Value.int .u64 (V : Int)] = uV (raw ++ (E1 ++ [(V : Int)])) := by simp [uV]
            rw [e1] at L3
            have B3 := below_append hba k1 (by have := hba.size; omega) hg2
            have HI9 : Hid (m + 1 + 1 = n0 + (E1 ++ [(V : Int)]).length ∧ (E1 ++ [(V : Int)]).length ≤ I + 2 ∧ In64 (E1 ++ [(V : Int)]) ∧ w9.ownsRow w.heap.size 25 1 (.slice lo2 (m + 1 + 1) lc2) (m + 1 + 1) (uV (raw ++ (E1 ++ [(V : Int)]))) ∧ Below w.heap.size w w9) := ⟨by have := HI7.out.1; simp; omega, by have := HI7.out.2.1; simp; omega, fun v hv => by
              rcases List.mem_append.1 hv with h | h
              · exact HI7.out.2.2.1 v h
              · rw [List.mem_singleton.1 h]; have := K641.out; omega, L3, B3⟩
            clear hown1 hgrow hat hg2 e1 L3 B3 ho1 hbl k1 hba hown HI7
            generalize E1 ++ [(V : Int)] = E2' at *
            go_roundw
            case rel => exact ⟨E2', m + 1 + 1, I + 2, lo2, lc2, by have := HI9.out.1; have := HI9.out.2.1; omega, by omega, by go_num, rfl, HI9.out⟩
            case measure => simp [intOf]; omega
      · have q3 : decide ((I : Int) + 1 < n1) = false := decide_eq_false (by omega)
        obtain ⟨q, hq⟩ : ∃ q, E.length = q := ⟨_, rfl⟩
        obtain ⟨hme, hEI, hE64, ho1, hbl⟩ := HI.out
        rw [hq] at hme hEI
        obtain ⟨L, hL⟩ : ∃ L, raw ++ E = L := ⟨_, rfl⟩
        rw [hL] at ho1
        have hLl : L.length = m := by rw [← hL, List.length_append, HRL.out, hq]; omega
        have hL64 : In64 L := fun v hv => by rw [← hL] at hv; exact (List.mem_append.1 hv).elim (HR64.out v) (hE64 v)
        have hwl := words_own hLl.symm ho1
        obtain ⟨hcap, hcell⟩ : m ≤ lc ∧ (0 < m → ∃ g, lo = some ⟨g, 0, none⟩ ∧ g < wr.heap.size ∧ ∀ j, j < m → wr.cell? ⟨g, j, none⟩ = some (.int .u64 (L.getD j 0))) := by
          obtain ⟨ao, c', e, h1, h2⟩ := own_form ho1
          cases e
          exact ⟨h1, fun h0 => by
            obtain ⟨g, h3, _, h4, h5⟩ := h2 h0
            exact ⟨g, h3, h4, fun j hj => h5 j _ (uV_get _ j (by omega))⟩⟩
        obtain ⟨so, hso⟩ : ∃ so : Option Addr, (if lc = n0 then lo else lo.map (fun a => a.add (n0 * 1))) = so := ⟨_, rfl⟩
        have hwe : WordsAt wr wr.heap.size so E := fun h0 => by
          obtain ⟨g, h3, h4, h5⟩ := hcell (by omega)
          refine ⟨g, n0, ?_, h4, fun i hi => ?_⟩
          · rw [← hso, if_neg (by omega), h3]
            simp [Addr.add]; omega
          · rw [h5 (n0 + i) (by omega), ← hL, List.getD_eq_getElem?_getD, List.getElem?_append_right (by rw [HRL.out]; omega), HRL.out, Nat.add_sub_cancel_left, ← List.getD_eq_getElem?_getD]
        have hcs1 := fun wx (hx : Below wr.heap.size wr wx) => check_any lo lc L a2 wx wr.heap.size (hwl.below hx (Nat.le_refl _)) hx.size (by omega) hL64
        have hcs2 := fun wx (hx : Below wr.heap.size wr wx) => rcheck_any lo lc L a2 wx wr.heap.size (hwl.below hx (Nat.le_refl _)) hx.size (by omega) hL64
        have hcs3 := fun wx (hx : Below wr.heap.size wr wx) => check_any so (lc - n0) E (R : Int) wx wr.heap.size (hwe.below hx (Nat.le_refl _)) hx.size (by omega) hE64
        have hcs4 := fun wx (hx : Below wr.heap.size wr wx) => rcheck_any so (lc - n0) E (R : Int) wx wr.heap.size (hwe.below hx (Nat.le_refl _)) hx.size (by omega) hE64
        rw [hLl] at hcs1 hcs2
        rw [hq] at hcs3 hcs4
        generalize chkF a2 L = u1 at *
        generalize chkF (R : Int) E = u2 at *
        have HC1 := Lib.hid hcs1
        have HC2 := Lib.hid hcs2
        have HC3 := Lib.hid hcs3
        have HC4 := Lib.hid hcs4
        have HWL := Lib.hid hwl
        have HL64 := Lib.hid hL64
        have HLL := Lib.hid hLl
        have HB0 := Lib.hid hbl
        have HS1 : Hid (lc = n0 → lo = so) := fun h => by rw [if_pos h] at hso; exact hso
        have HS2 : Hid (¬ lc = n0 → lo.map (fun a => a.add n0) = so) := fun h => by rw [if_neg h, Nat.mul_one] at hso; exact hso
        have HQ := Lib.hid hme
        have hnm : n0 ≤ m := by omega
        have hmq : m - n0 = q := by omega
        clear hcs1 hcs2 hcs3 hcs4 hwl hwe hso hcell hL64 hLl ho1 hbl hE64 hEI hme HI HRL HR64 HX HLW HRW hL hq HOA HBA
        have e1 : (u1 != u1) = false := by simp
        have e2 : (u2 != u2) = false := by simp
        go_upto_region 16 with (fail)
        refine wp_region_inv (fun w w' => Below w.heap.size w w') (fun qi_ qv_ _ => qv_ = ([.slice lo m lc, .int .i64 a2, .int .i64 u1, .slice lo m lc, .int .i64 a2, .int .i64 u1, .bool false, .bool false, .slice lo m lc, .slice a0 n0 c0, .int .i64 n0, .slice so q (lc - n0), .int .i64 a2, .int .i64 (a2.tmod 13), .int .i64 (a2.tmod 13 + 13), .int .i64 R, .int .i64 u2, .slice lo m lc, .slice a0 n0 c0, .int .i64 n0, .slice so q (lc - n0), .int .i64 a2, .int .i64 (a2.tmod 13), .int .i64 (a2.tmod 13 + 13), .int .i64 R, .int .i64 u2, .bool false, .bool false] : List Value).getD qi_ undef) (by kernel_rfl) (by kernel_rfl) (fun _ => Below.refl _ _) (fun _ _ _ h1 h2 => below_later h1 h1.size h2) (fun _ _ _ _ _ _ h => h) ?_
        refine inv_cons (fun wx hg hd => ?_) (fun v0 => ?_)
        · have hx := ((Below.refl wr.heap.size wr).drew).trans hg
          clear hd hg
          go_wp2
          exact ⟨_, rfl, Below.refl _ _, rfl⟩
        (try simp only [List.nil_append, Act.put, List.setIfInBounds_toArray, List.set_cons_zero, List.set_cons_succ])
        refine inv_cons (fun wx hg hd => ?_) (fun v1 => ?_)
        · have hx := ((Below.refl wr.heap.size wr).drew).trans hg
          clear hd hg
          go_wp2
          exact ⟨_, rfl, Below.refl _ _, rfl⟩
        (try simp only [List.cons_append, List.nil_append, Act.put, List.setIfInBounds_toArray, List.set_cons_zero, List.set_cons_succ])
        refine inv_cons (fun wx hg hd => ?_) (fun v2 => ?_)
        · have hx := ((Below.refl wr.heap.size wr).drew).trans hg
          (try (have ee : v0 = (.slice lo m lc : Value) := hd 0 (by simp) (by decide); subst ee))
          (try (have ee : v1 = (.int .i64 a2 : Value) := hd 1 (by simp) (by decide); subst ee))
          clear hd hg
          go_wp2_with fail
          refine (HC1.out _ hx).mono ?_
          rintro e w' ⟨rfl, hb⟩
          go_wp2
          exact ⟨_, rfl, hb, rfl⟩
        (try simp only [List.cons_append, List.nil_append, Act.put, List.setIfInBounds_toArray, List.set_cons_zero, List.set_cons_succ])
        refine inv_cons (fun wx hg hd => ?_) (fun v3 => ?_)
        · have hx := ((Below.refl wr.heap.size wr).drew).trans hg
          clear hd hg
          go_wp2
          exact ⟨_, rfl, Below.refl _ _, rfl⟩
        (try simp only [List.cons_append, List.nil_append, Act.put, List.setIfInBounds_toArray, List.set_cons_zero, List.set_cons_succ])
        refine inv_cons (fun wx hg hd => ?_) (fun v4 => ?_)
        · have hx := ((Below.refl wr.heap.size wr).drew).trans hg
          clear hd hg
          go_wp2
          exact ⟨_, rfl, Below.refl _ _, rfl⟩
        (try simp only [List.cons_append, List.nil_append, Act.put, List.setIfInBounds_toArray, List.set_cons_zero, List.set_cons_succ])
        refine inv_cons (fun wx hg hd => ?_) (fun v5 => ?_)
        · have hx := ((Below.refl wr.heap.size wr).drew).trans hg
          (try (have ee : v3 = (.slice lo m lc : Value) := hd 3 (by simp) (by decide); subst ee))
          (try (have ee : v4 = (.int .i64 a2 : Value) := hd 4 (by simp) (by decide); subst ee))
          clear hd hg
          go_wp2_with fail
          refine (HC2.out _ hx).mono ?_
          rintro e w' ⟨rfl, hb⟩
          go_wp2
          exact ⟨_, rfl, hb, rfl⟩
        (try simp only [List.cons_append, List.nil_append, Act.put, List.setIfInBounds_toArray, List.set_cons_zero, List.set_cons_succ])
        refine inv_cons (fun wx hg hd => ?_) (fun v6 => ?_)
        · have hx := ((Below.refl wr.heap.size wr).drew).trans hg
          (try (have ee : v2 = (.int .i64 u1 : Value) := hd 2 (by simp) (by decide); subst ee))
          (try (have ee : v5 = (.int .i64 u1 : Value) := hd 5 (by simp) (by decide); subst ee))
          clear hd hg
          go_wp2
          exact ⟨_, rfl, Below.refl _ _, rfl⟩
        (try simp only [List.cons_append, List.nil_append, Act.put, List.setIfInBounds_toArray, List.set_cons_zero, List.set_cons_succ])
        refine inv_cons (fun wx hg hd => ?_) (fun v7 => ?_)
        · have hx := ((Below.refl wr.heap.size wr).drew).trans hg
          (try (have ee : v6 = (.bool false : Value) := hd 6 (by simp) (by decide); subst ee))
          clear hd hg
          go_wp2
          exact ⟨_, rfl, Below.refl _ _, rfl⟩
        (try simp only [List.cons_append, List.nil_append, Act.put, List.setIfInBounds_toArray, List.set_cons_zero, List.set_cons_succ])
        refine inv_cons (fun wx hg hd => ?_) (fun v8 => ?_)
        · have hx := ((Below.refl wr.heap.size wr).drew).trans hg
          (try (have ee : v7 = (.bool false : Value) := hd 7 (by simp) (by decide); subst ee))
          clear hd hg
          go_wp2
          exact ⟨_, rfl, Below.refl _ _, rfl⟩
        (try simp only [List.cons_append, List.nil_append, Act.put, List.setIfInBounds_toArray, List.set_cons_zero, List.set_cons_succ])
        refine inv_cons (fun wx hg hd => ?_) (fun v9 => ?_)
        · have hx := ((Below.refl wr.heap.size wr).drew).trans hg
          (try (have ee : v7 = (.bool false : Value) := hd 7 (by simp) (by decide); subst ee))
          clear hd hg
          go_wp2
          exact ⟨_, rfl, Below.refl _ _, rfl⟩
        (try simp only [List.cons_append, List.nil_append, Act.put, List.setIfInBounds_toArray, List.set_cons_zero, List.set_cons_succ])
        refine inv_cons (fun wx hg hd => ?_) (fun v10 => ?_)
        · have hx := ((Below.refl wr.heap.size wr).drew).trans hg
          (try (have ee : v7 = (.bool false : Value) := hd 7 (by simp) (by decide); subst ee))
          (try (have ee : v9 = (.slice a0 n0 c0 : Value) := hd 9 (by simp) (by decide); subst ee))
          clear hd hg
          go_wp2
          exact ⟨_, rfl, Below.refl _ _, rfl⟩
        (try simp only [List.cons_append, List.nil_append, Act.put, List.setIfInBounds_toArray, List.set_cons_zero, List.set_cons_succ])
        refine inv_cons (fun wx hg hd => ?_) (fun v11 => ?_)
        · have hx := ((Below.refl wr.heap.size wr).drew).trans hg
          (try (have ee : v7 = (.bool false : Value) := hd 7 (by simp) (by decide); subst ee))
          (try (have ee : v8 = (.slice lo m lc : Value) := hd 8 (by simp) (by decide); subst ee))
          (try (have ee : v10 = (.int .i64 n0 : Value) := hd 10 (by simp) (by decide); subst ee))
          clear hd hg
          go_wp2
          · exact ⟨_, rfl, Below.refl _ _, by rename_i h; first | rw [← HS1.out h, ← hmq] | (trace_state; done)⟩
          · exact ⟨_, rfl, Below.refl _ _, by rename_i h; first | rw [← HS2.out h, ← hmq] | (trace_state; done)⟩
        (try simp only [List.cons_append, List.nil_append, Act.put, List.setIfInBounds_toArray, List.set_cons_zero, List.set_cons_succ])
        refine inv_cons (fun wx hg hd => ?_) (fun v12 => ?_)
        · have hx := ((Below.refl wr.heap.size wr).drew).trans hg
          (try (have ee : v7 = (.bool false : Value) := hd 7 (by simp) (by decide); subst ee))
          clear hd hg
          go_wp2
          exact ⟨_, rfl, Below.refl _ _, rfl⟩
        (try simp only [List.cons_append, List.nil_append, Act.put, List.setIfInBounds_toArray, List.set_cons_zero, List.set_cons_succ])
        refine inv_cons (fun wx hg hd => ?_) (fun v13 => ?_)
        · have hx := ((Below.refl wr.heap.size wr).drew).trans hg
          (try (have ee : v7 = (.bool false : Value) := hd 7 (by simp) (by decide); subst ee))
          (try (have ee : v12 = (.int .i64 a2 : Value) := hd 12 (by simp) (by decide); subst ee))
          clear hd hg
          go_wp2
          exact ⟨_, rfl, Below.refl _ _, rfl⟩
        (try simp only [List.cons_append, List.nil_append, Act.put, List.setIfInBounds_toArray, List.set_cons_zero, List.set_cons_succ])
        refine inv_cons (fun wx hg hd => ?_) (fun v14 => ?_)
        · have hx := ((Below.refl wr.heap.size wr).drew).trans hg
          (try (have ee : v7 = (.bool false : Value) := hd 7 (by simp) (by decide); subst ee))
          (try (have ee : v13 = (.int .i64 (a2.tmod 13) : Value) := hd 13 (by simp) (by decide); subst ee))
          clear hd hg
          go_wp2
          exact ⟨_, rfl, Below.refl _ _, rfl⟩
        (try simp only [List.cons_append, List.nil_append, Act.put, List.setIfInBounds_toArray, List.set_cons_zero, List.set_cons_succ])
        refine inv_cons (fun wx hg hd => ?_) (fun v15 => ?_)
        · have hx := ((Below.refl wr.heap.size wr).drew).trans hg
          (try (have ee : v7 = (.bool false : Value) := hd 7 (by simp) (by decide); subst ee))
          (try (have ee : v14 = (.int .i64 (a2.tmod 13 + 13) : Value) := hd 14 (by simp) (by decide); subst ee))
          clear hd hg
          go_wp2
          exact ⟨_, rfl, Below.refl _ _, rfl⟩
        (try simp only [List.cons_append, List.nil_append, Act.put, List.setIfInBounds_toArray, List.set_cons_zero, List.set_cons_succ])
        refine inv_cons (fun wx hg hd => ?_) (fun v16 => ?_)
        · have hx := ((Below.refl wr.heap.size wr).drew).trans hg
          (try (have ee : v7 = (.bool false : Value) := hd 7 (by simp) (by decide); subst ee))
          (try (have ee : v11 = (.slice so q (lc - n0) : Value) := hd 11 (by simp) (by decide); subst ee))
          (try (have ee : v15 = (.int .i64 R : Value) := hd 15 (by simp) (by decide); subst ee))
          clear hd hg
          go_wp2_with fail
          refine (HC3.out _ hx).mono ?_
          rintro e w' ⟨rfl, hb⟩
          go_wp2
          exact ⟨_, rfl, hb, rfl⟩
        (try simp only [List.cons_append, List.nil_append, Act.put, List.setIfInBounds_toArray, List.set_cons_zero, List.set_cons_succ])
        refine inv_cons (fun wx hg hd => ?_) (fun v17 => ?_)
        · have hx := ((Below.refl wr.heap.size wr).drew).trans hg
          (try (have ee : v7 = (.bool false : Value) := hd 7 (by simp) (by decide); subst ee))
          clear hd hg
          go_wp2
          exact ⟨_, rfl, Below.refl _ _, rfl⟩
        (try simp only [List.cons_append, List.nil_append, Act.put, List.setIfInBounds_toArray, List.set_cons_zero, List.set_cons_succ])
        refine inv_cons (fun wx hg hd => ?_) (fun v18 => ?_)
        · have hx := ((Below.refl wr.heap.size wr).drew).trans hg
          (try (have ee : v7 = (.bool false : Value) := hd 7 (by simp) (by decide); subst ee))
          clear hd hg
          go_wp2
          exact ⟨_, rfl, Below.refl _ _, rfl⟩
        (try simp only [List.cons_append, List.nil_append, Act.put, List.setIfInBounds_toArray, List.set_cons_zero, List.set_cons_succ])
        refine inv_cons (fun wx hg hd => ?_) (fun v19 => ?_)
        · have hx := ((Below.refl wr.heap.size wr).drew).trans hg
          (try (have ee : v7 = (.bool false : Value) := hd 7 (by simp) (by decide); subst ee))
          (try (have ee : v18 = (.slice a0 n0 c0 : Value) := hd 18 (by simp) (by decide); subst ee))
          clear hd hg
          go_wp2
          exact ⟨_, rfl, Below.refl _ _, rfl⟩
        (try simp only [List.cons_append, List.nil_append, Act.put, List.setIfInBounds_toArray, List.set_cons_zero, List.set_cons_succ])
        refine inv_cons (fun wx hg hd => ?_) (fun v20 => ?_)
        · have hx := ((Below.refl wr.heap.size wr).drew).trans hg
          (try (have ee : v7 = (.bool false : Value) := hd 7 (by simp) (by decide); subst ee))
          (try (have ee : v17 = (.slice lo m lc : Value) := hd 17 (by simp) (by decide); subst ee))
          (try (have ee : v19 = (.int .i64 n0 : Value) := hd 19 (by simp) (by decide); subst ee))
          clear hd hg
          go_wp2
          · exact ⟨_, rfl, Below.refl _ _, by rename_i h; first | rw [← HS1.out h, ← hmq] | (trace_state; done)⟩
          · exact ⟨_, rfl, Below.refl _ _, by rename_i h; first | rw [← HS2.out h, ← hmq] | (trace_state; done)⟩
        (try simp only [List.cons_append, List.nil_append, Act.put, List.setIfInBounds_toArray, List.set_cons_zero, List.set_cons_succ])
        refine inv_cons (fun wx hg hd => ?_) (fun v21 => ?_)
        · have hx := ((Below.refl wr.heap.size wr).drew).trans hg
          (try (have ee : v7 = (.bool false : Value) := hd 7 (by simp) (by decide); subst ee))
          clear hd hg
          go_wp2
          exact ⟨_, rfl, Below.refl _ _, rfl⟩
        (try simp only [List.cons_append, List.nil_append, Act.put, List.setIfInBounds_toArray, List.set_cons_zero, List.set_cons_succ])
        refine inv_cons (fun wx hg hd => ?_) (fun v22 => ?_)
        · have hx := ((Below.refl wr.heap.size wr).drew).trans hg
          (try (have ee : v7 = (.bool false : Value) := hd 7 (by simp) (by decide); subst ee))
          (try (have ee : v21 = (.int .i64 a2 : Value) := hd 21 (by simp) (by decide); subst ee))
          clear hd hg
          go_wp2
          exact ⟨_, rfl, Below.refl _ _, rfl⟩
        (try simp only [List.cons_append, List.nil_append, Act.put, List.setIfInBounds_toArray, List.set_cons_zero, List.set_cons_succ])
        refine inv_cons (fun wx hg hd => ?_) (fun v23 => ?_)
        · have hx := ((Below.refl wr.heap.size wr).drew).trans hg
          (try (have ee : v7 = (.bool false : Value) := hd 7 (by simp) (by decide); subst ee))
          (try (have ee : v22 = (.int .i64 (a2.tmod 13) : Value) := hd 22 (by simp) (by decide); subst ee))
          clear hd hg
          go_wp2
          exact ⟨_, rfl, Below.refl _ _, rfl⟩
        (try simp only [List.cons_append, List.nil_append, Act.put, List.setIfInBounds_toArray, List.set_cons_zero, List.set_cons_succ])
        refine inv_cons (fun wx hg hd => ?_) (fun v24 => ?_)
        · have hx := ((Below.refl wr.heap.size wr).drew).trans hg
          (try (have ee : v7 = (.bool false : Value) := hd 7 (by simp) (by decide); subst ee))
          (try (have ee : v23 = (.int .i64 (a2.tmod 13 + 13) : Value) := hd 23 (by simp) (by decide); subst ee))
          clear hd hg
          go_wp2
          exact ⟨_, rfl, Below.refl _ _, rfl⟩
        (try simp only [List.cons_append, List.nil_append, Act.put, List.setIfInBounds_toArray, List.set_cons_zero, List.set_cons_succ])
        refine inv_cons (fun wx hg hd => ?_) (fun v25 => ?_)
        · have hx := ((Below.refl wr.heap.size wr).drew).trans hg
          (try (have ee : v7 = (.bool false : Value) := hd 7 (by simp) (by decide); subst ee))
          (try (have ee : v20 = (.slice so q (lc - n0) : Value) := hd 20 (by simp) (by decide); subst ee))
          (try (have ee : v24 = (.int .i64 R : Value) := hd 24 (by simp) (by decide); subst ee))
          clear hd hg
          go_wp2_with fail
          refine (HC4.out _ hx).mono ?_
          rintro e w' ⟨rfl, hb⟩
          go_wp2
          exact ⟨_, rfl, hb, rfl⟩
        (try simp only [List.cons_append, List.nil_append, Act.put, List.setIfInBounds_toArray, List.set_cons_zero, List.set_cons_succ])
        refine inv_cons (fun wx hg hd => ?_) (fun v26 => ?_)
        · have hx := ((Below.refl wr.heap.size wr).drew).trans hg
          (try (have ee : v7 = (.bool false : Value) := hd 7 (by simp) (by decide); subst ee))
          (try (have ee : v16 = (.int .i64 u2 : Value) := hd 16 (by simp) (by decide); subst ee))
          (try (have ee : v25 = (.int .i64 u2 : Value) := hd 25 (by simp) (by decide); subst ee))
          clear hd hg
          go_wp2
          exact ⟨_, rfl, Below.refl _ _, rfl⟩
        (try simp only [List.cons_append, List.nil_append, Act.put, List.setIfInBounds_toArray, List.set_cons_zero, List.set_cons_succ])
        refine inv_cons (fun wx hg hd => ?_) (fun v27 => ?_)
        · have hx := ((Below.refl wr.heap.size wr).drew).trans hg
          (try (have ee : v7 = (.bool false : Value) := hd 7 (by simp) (by decide); subst ee))
          (try (have ee : v26 = (.bool false : Value) := hd 26 (by simp) (by decide); subst ee))
          clear hd hg
          go_wp2
          exact ⟨_, rfl, Below.refl _ _, rfl⟩
        (try simp only [List.cons_append, List.nil_append, Act.put, List.setIfInBounds_toArray, List.set_cons_zero, List.set_cons_succ])
        refine inv_done (fun wx hg hd => ?_)
        have hx := ((Below.refl wr.heap.size wr).drew).trans hg
        (have ee : v0 = (.slice lo m lc : Value) := hd 0 (by simp); subst ee)
        (have ee : v1 = (.int .i64 a2 : Value) := hd 1 (by simp); subst ee)
        (have ee : v2 = (.int .i64 u1 : Value) := hd 2 (by simp); subst ee)
        (have ee : v3 = (.slice lo m lc : Value) := hd 3 (by simp); subst ee)
        (have ee : v4 = (.int .i64 a2 : Value) := hd 4 (by simp); subst ee)
        (have ee : v5 = (.int .i64 u1 : Value) := hd 5 (by simp); subst ee)
        (have ee : v6 = (.bool false : Value) := hd 6 (by simp); subst ee)
        (have ee : v7 = (.bool false : Value) := hd 7 (by simp); subst ee)
        (have ee : v8 = (.slice lo m lc : Value) := hd 8 (by simp); subst ee)
        (have ee : v9 = (.slice a0 n0 c0 : Value) := hd 9 (by simp); subst ee)
        (have ee : v10 = (.int .i64 n0 : Value) := hd 10 (by simp); subst ee)
        (have ee : v11 = (.slice so q (lc - n0) : Value) := hd 11 (by simp); subst ee)
        (have ee : v12 = (.int .i64 a2 : Value) := hd 12 (by simp); subst ee)
        (have ee : v13 = (.int .i64 (a2.tmod 13) : Value) := hd 13 (by simp); subst ee)
        (have ee : v14 = (.int .i64 (a2.tmod 13 + 13) : Value) := hd 14 (by simp); subst ee)
        (have ee : v15 = (.int .i64 R : Value) := hd 15 (by simp); subst ee)
        (have ee : v16 = (.int .i64 u2 : Value) := hd 16 (by simp); subst ee)
        (have ee : v17 = (.slice lo m lc : Value) := hd 17 (by simp); subst ee)
        (have ee : v18 = (.slice a0 n0 c0 : Value) := hd 18 (by simp); subst ee)
        (have ee : v19 = (.int .i64 n0 : Value) := hd 19 (by simp); subst ee)
        (have ee : v20 = (.slice so q (lc - n0) : Value) := hd 20 (by simp); subst ee)
        (have ee : v21 = (.int .i64 a2 : Value) := hd 21 (by simp); subst ee)
        (have ee : v22 = (.int .i64 (a2.tmod 13) : Value) := hd 22 (by simp); subst ee)
        (have ee : v23 = (.int .i64 (a2.tmod 13 + 13) : Value) := hd 23 (by simp); subst ee)
        (have ee : v24 = (.int .i64 R : Value) := hd 24 (by simp); subst ee)
        (have ee : v25 = (.int .i64 u2 : Value) := hd 25 (by simp); subst ee)
        (have ee : v26 = (.bool false : Value) := hd 26 (by simp); subst ee)
        (have ee : v27 = (.bool false : Value) := hd 27 (by simp); subst ee)
        clear hd hg
        (try go_simp)
        obtain ⟨S, hS⟩ : ∃ S, setF L = S := ⟨_, rfl⟩
        obtain ⟨n, hnn⟩ : ∃ n, S.length = n := ⟨_, rfl⟩
        have hsl : n ≤ m := by have := setF_length L; rw [hS, hnn, HLL.out] at this; exact this
        have HGF : Hid (grpF L = (gAll S).out) := by rw [← hS]; rfl
        have h64s : In64 S := fun v hv => HL64.out v (by rw [← hS] at hv; exact (setF_mem L v).1 hv)
        have hrs := rset_any lo lc L wx ((HWL.out.below hx (Nat.le_refl _)).wider hx.size) (by rw [HLL.out]; omega)
        rw [HLL.out, hS] at hrs
        have HRS := Lib.hid hrs
        have HWX := Lib.hid ((HWL.out.below hx (Nat.le_refl _)).wider hx.size)
        have HBX := Lib.hid (HB0.out.trans (hx.mono HB0.out.size))
        have HN := Lib.hid hnn
        have H64 : Hid (∀ k, k < n → 0 ≤ S.getD k 0 ∧ S.getD k 0 < 18446744073709551616) := fun k hk => h64s _ (getD_mem (by rw [hnn]; exact hk))
        have HTK : Hid (∀ k, k < n → gAll (S.take (k + 1)) = gStep (gAll (S.take k)) (S.getD k 0)) := fun k hk => by rw [take_w S (by rw [hnn]; exact hk), gAll_snoc]
        have HEND : Hid (∀ k, n ≤ k → S.take k = S) := fun k hk => List.take_of_length_le (by rw [hnn]; exact hk)
        have HHAS : Hid (∀ k G p, gAll (S.take k) = ⟨G, p, true⟩ → G ≠ []) := fun k G p hg => by
          have := gAll_has (S.take k)
          rw [hg] at this
          exact this rfl
        have HLEN : Hid (∀ k, k ≤ n → (gAll (S.take k)).out.length ≤ k) := by
          intro k
          induction k with
          | zero => intro _; exact Nat.le_refl _
          | succ k ih =>
            intro hk
            rw [HTK.out k (by omega)]
            have := ih (by omega)
            unfold gStep
            split
            · omega
            · split
              · simp only [List.length_append, List.length_dropLast, List.length_cons, List.length_nil]; omega
              · simp only [List.length_append, List.length_cons, List.length_nil]; omega
        have HROW : Hid (∀ k, k ≤ n → ∀ r ∈ (gAll (S.take k)).out, r.length ≤ k) := by
          intro k
          induction k with
          | zero => intro _ r hr; cases hr
          | succ k ih =>
            intro hk
            rw [HTK.out k (by omega)]
            exact g_rows _ _ (ih (by omega))
        have hn6 : n ≤ 121 := by omega
        clear hS hnn h64s hrs HB0 HWL HC1 HC2 HC3 HC4 HS1 HS2 HQ hx
        obtain ⟨i1, hj, hy0, hy1, hy2⟩ := info_parts info_us
        go_wp2_with fail
        refine HRS.out.mono ?_
        unfold Joined
        rintro e w1 ⟨sro, src, rfl, hws, hb1, -⟩
        rw [HN.out]
        have HW := Lib.hid hws
        have HB1 := Lib.hid (HBX.out.trans (hb1.mono HBX.out.size))
        have HWX1 := Lib.hid ((HWX.out.below hb1 (Nat.le_refl _)).wider hb1.size)
        clear hws hb1 HRS HBX HWX
        go_wp2
        go_loopw [21, 22, 23, 24] (fun v pv bv i wr => ∃ (k : Nat) (G : List (List Int)) (vs : List Value) (p : Int) (b : Bool) (vo : Option Addr) (q vc : Nat), v = .slice vo q vc ∧ k ≤ n ∧ i = .int .i64 k ∧ pv = .int .u64 p ∧ bv = .bool b ∧ q ≤ k ∧ Hid (gAll (S.take k) = ⟨G, p, b⟩) ∧ Hid (vs.length = q) ∧ Hid (Gr wr w1.heap.size (.slice vo q vc) vs G ∧ Below w1.heap.size w1 wr)) (fun _ _ _ i _ => n - (intOf i).toNat)
        case atStart => exact ⟨0, [], [], 0, false, none, 0, 0, rfl, by omega, rfl, rfl, rfl, by omega, rfl, rfl, Gr.nil _ _, Below.refl _ _⟩
        case round =>
          obtain ⟨k, G, vs, p, b, vo, q, vc, rfl, hk, rfl, rfl, rfl, hvl, HS, HQ, HI⟩ := hrel
          have hbr := HI.out.2
          have hsr := hbr.size
          by_cases hlt : k < n
          · obtain ⟨sg, soff, rfl, hsg, hsc⟩ := (HW.out.below hbr (Nat.le_refl _)) (by rw [HN.out]; omega)
            have c0 := hsc k (by rw [HN.out]; exact hlt)
            obtain ⟨v1, v2⟩ := H64.out k hlt
            have hst := HTK.out k hlt
            have hln := HLEN.out (k + 1) (by omega)
            generalize S.getD k 0 = x at *
            obtain ⟨u, rfl⟩ : ∃ u : Nat, x = u := ⟨x.toNat, by omega⟩
            have HIP := Lib.hid (wup_any u (by omega))
            have HIW := Lib.hid (isw_any u (by omega))
            rw [HS.out] at hst
            rw [hst] at hln
            have hsgw : sg < wr.heap.size := by omega
            have C0 : Hid (∀ wx, Below wr.heap.size wr wx → wx.cell? ⟨sg, soff + k, none⟩ = some (.int .u64 (u : Int))) := fun wx hx => (hx.cell (p := ⟨sg, _, none⟩) hsgw).trans c0
            clear hsc hbr
            have hpe := par_kinds u
            by_cases h5 : parE u = 5
            · have hwf : isW u = false := by
                rcases hpe with h | h | h
                · exact h.2
                · rw [h.1] at h5; cases h5
                · rw [h.1] at h5; cases h5
              rw [g_skip h5] at hst
              rw [hwf] at HIW
              have HST := Lib.hid hst
              clear hst h5 hpe hln HIP hwf
              go_wp2_with fail
              refine (HIW.out _).mono ?_
              rintro e w2 ⟨rfl, hb2⟩
              have HG2 : Hid (Gr w2 w1.heap.size (.slice vo q vc) vs G ∧ Below w1.heap.size w1 w2) := ⟨HI.out.1.later hb2, HI.out.2.trans (hb2.mono (by omega))⟩
              clear hb2 HI c0
              go_wp2
              go_roundw
              case rel => exact ⟨k + 1, G, vs, p, b, vo, q, vc, rfl, by omega, by go_num, rfl, rfl, by omega, HST.out, HQ.out, HG2.out⟩
              case measure => simp [intOf]; omega
            · have hwt : isW u = true := by
                rcases hpe with h | h | h
                · exact absurd h.1 h5
                · exact h.2
                · exact h.2
              have hpe2 : parE u = 3 ∨ parE u = 0 := by
                rcases hpe with h | h | h
                · exact absurd h.1 h5
                · exact .inl h.1
                · exact .inr h.1
              rw [hwt] at HIW
              clear hwt hpe
              by_cases hm : parE u = 0 ∧ b = true ∧ (parW u : Int) = p
              · obtain ⟨h0, rfl, hp⟩ := hm
                obtain ⟨G', l', rfl⟩ : ∃ G' l', G = G' ++ [l'] := ⟨G.dropLast, G.getLast (HHAS.out _ _ _ HS.out), (List.dropLast_concat_getLast _).symm⟩
                have hOl := HI.out.1.2.1.length
                have hrow := HROW.out k hk
                rw [HS.out] at hrow
                have hl6 : l'.length ≤ k := hrow l' (by simp)
                clear hrow
                obtain ⟨vs', x, rfl⟩ : ∃ vs' x, vs = vs' ++ [x] := by
                  have hne : vs ≠ [] := fun e => by rw [e] at hOl; simp at hOl
                  exact ⟨vs.dropLast, vs.getLast hne, (List.dropLast_concat_getLast _).symm⟩
                rw [g_more h0 hp] at hst
                rw [h0, hp] at HIP
                have HST := Lib.hid hst
                clear hst h5 hpe2 h0 hp hln hOl
                have hq := HQ.out
                rw [List.length_append] at hq
                simp only [List.length_cons, List.length_nil] at hq
                obtain ⟨q', rfl⟩ : ∃ q', q = q' + 1 := ⟨q - 1, by omega⟩
                have HQ' : Hid (vs'.length = q') := by show _ = _; omega
                obtain ⟨vo', vc', hvv, hvc, hvo⟩ := own_form HI.out.1.1
                simp only [Value.slice.injEq] at hvv
                obtain ⟨rfl, -, rfl⟩ := hvv
                obtain ⟨g, rfl, hgB, hgs, hgc⟩ := hvo (by simp)
                obtain ⟨xo, xc, rfl, hxc, -⟩ := own_form HI.out.1.2.1.last.2
                obtain ⟨ml, hm⟩ : ∃ ml, l'.length = ml := ⟨_, rfl⟩
                have HM := Lib.hid hm
                rw [hm] at hl6 hxc
                have O0 : Hid (∀ wx, Below wr.heap.size wr wx → wx.cell? ⟨g, q', none⟩ = some (.slice xo ml xc)) := fun wx hx => by
                  have := hgc q' (.slice xo l'.length xc) (by rw [← HQ'.out]; simp)
                  rw [hm] at this
                  exact (hx.cell (p := ⟨g, q', none⟩) hgs).trans this
                clear hgc hq hm hvc hxc
                go_wp2_with fail
                refine (HIW.out _).mono ?_
                rintro e w12 ⟨rfl, hb12⟩
                have hz12 := hb12.size
                have c12 := C0.out _ hb12
                go_wp2_with fail
                refine (HIP.out _).mono ?_
                rintro e w2 ⟨rfl, hb22⟩
                have hb2 := hb12.trans (hb22.mono hb12.size)
                have HG2 := Lib.hid (HI.out.1.later hb2)
                have HB2 := Lib.hid (HI.out.2.trans (hb2.mono (by omega)))
                have c1 := O0.out _ hb2
                have c2 := C0.out _ hb2
                have hzz2 := hb2.size
                clear hb2 HI c0 O0 C0 hb12 hb22 c12 HIW HIP
                have hown := HG2.out.2.1.last.2
                rw [HM.out] at hown
                have q7 : IntKind.i64.wrap (((q' + 1 : Nat) : Int) - 1) = q' := by rw [show ((q' + 1 : Nat) : Int) - 1 = q' by omega]; exact wrap_in (by omega) (by omega)
                have hgw2 : g < w2.heap.size := by omega
                have hsw2 : sg < w2.heap.size := by omega
                have q9 : (q' : Int) < (q' : Int) + 1 := by omega
                have q10 : IntKind.i64.wrap (q' : Int) = q' := wrap_in (by omega) (by omega)
                have HGD : Hid (Gr w2.drew w1.heap.size (.slice (some ⟨g, 0, none⟩) (q' + 1) vc) (vs' ++ [.slice xo l'.length xc]) (G' ++ [l']))  := HG2.out.later (Below.refl _ _).drew
                have HBD : Hid (Below w1.heap.size w1 w2.drew) := HB2.out.drew
                have hownd : w2.drew.ownsRow w1.heap.size 25 1 (.slice xo ml xc) ml (uV l') := own_later hown (Below.refl _ _).drew
                have hq2 : q' + 1 ≤ k := hvl
                clear hvo hown HG2 HB2
                go_upto_region 27 with (fail)
                have HBS : Hid (w1.heap.size ≤ (w2.drew.alloc (.cells #[.int .u64 (u : Int)] 25)).heap.size) := by have := HBD.out.size; show _ ≤ _; simp at this ⊢; omega
                have HMA := Lib.hid (fun xg xcap w3 => more_all (w1 := w1) (w2 := w2) (w3 := w3) (xg := xg) (xcap := xcap) (u := (u : Int)) HGD.out HBD.out HQ'.out HM.out (by omega) HBD.out.size)
                clear HGD HBD
                go_region_law (refine step_append_lies _ rfl (.tmp 163) (.tmp 168) 22 rfl w1.heap.size 25 i0 (.int .u64 0) 1 8 Tryz.underlying22 hi hz0 hz1 hz2 rfl (by decide) (.slice xo ml xc) ml (uV l') (by simp [Act.eval]) (hownd.alloc _) ⟨w2.heap.size, 0, none⟩ 1 1 [.int .u64 u] (by simp [Act.eval]) rfl (cells_new _ _ _ _ rfl) (by simp [Value.oneCell']) (by decide) (by unfold maxLen; omega) (by omega) HBS.out _ rfl ?_; intro xg xcap w3 hown1 hgrow hat hxl; have HF := Lib.hid (HMA.out xg xcap w3 hown1 hgrow hat); have c3 := HF.out.1; have f3 := HF.out.2.1; have g3 := HF.out.2.2.1)
                all_goals
                  have HL2 : Hid ((vs' ++ [Value.slice (some ⟨xg, 0, none⟩) (ml + 1) xcap]).length = q' + 1) := by show _ = _; simp [HQ'.out]
                  clear hown1 hgrow hat hxl c1 c2 hownd c3 f3 HMA
                  go_wp2
                  go_roundw
                  case rel => exact ⟨k + 1, _, _, p, true, some ⟨g, 0, none⟩, q' + 1, vc, rfl, by omega, by go_num, rfl, rfl, by omega, HST.out, HL2.out, HF.out.2.2.2⟩
                  case measure => simp [intOf]; omega
              · rw [g_new h5 hm] at hst hln
                have HST := Lib.hid hst
                simp only [List.length_append, List.length_cons, List.length_nil] at hln
                clear hst
                have hcase : (parE u = 3 ∧ decide (parE u = 0) = false) ∨ (parE u = 0 ∧ b = false) ∨ (parE u = 0 ∧ b = true ∧ (p == ((parW u : Nat) : Int)) = false) := by
                  rcases hpe2 with h | h
                  · exact .inl ⟨h, by rw [h]; decide⟩
                  · right
                    cases b with
                    | false => exact .inl ⟨h, rfl⟩
                    | true => exact .inr ⟨h, rfl, by rw [beq_eq_false_iff_ne]; exact fun e => hm ⟨h, rfl, e.symm⟩⟩
                clear hm hpe2 h5
                generalize parW u = P at *
                generalize parE u = E at *
                rcases hcase with ⟨rfl, h3⟩ | ⟨rfl, rfl⟩ | ⟨rfl, rfl, h3⟩
                all_goals
                  first | rw [show decide ((3 : Int) = 0) = false from rfl] at HST | rw [show decide ((0 : Int) = 0) = true from rfl] at HST
                  go_wp2_with fail
                  refine (HIW.out _).mono ?_
                  rintro e w12 ⟨rfl, hb12⟩
                  have hz12 := hb12.size
                  have c12 := C0.out _ hb12
                  go_wp2_with fail
                  refine (HIP.out _).mono ?_
                  rintro e w2 ⟨rfl, hb22⟩
                  have hb2 := hb12.trans (hb22.mono hb12.size)
                  have HG2 := Lib.hid (HI.out.1.later hb2)
                  have HB2 := Lib.hid (HI.out.2.trans (hb2.mono (by omega)))
                  have c2 := C0.out _ hb2
                  have hzz2 := hb2.size
                  clear hb2 HI c0 C0 hb12 hb22 c12 HIW HIP
                  have hown := HG2.out.1
                  rw [HQ.out] at hown
                  go_wp2_with (at_builtin; refine wpList_append_own _ rfl (.tmp 171) (.tmp 177) 43 rfl w1.heap.size 22 i1 (.slice none 0 0) 1 24 Tryz.underlying43 hj hy0 hy1 hy2 rfl (by decide) _ _ _ rfl ((hown.alloc _).alloc _) ⟨w2.heap.size + 1, 0, none⟩ 1 1 [.slice (some ⟨w2.heap.size, 0, none⟩) 1 1] rfl rfl (cells_new _ _ _ _ (by simp)) (by simp [Value.oneCell']) (by unfold maxLen; omega) (by omega) (by simp; omega) ?_; intro v' w3 hown1 hgrow _)
                  have hg2 : ((w2.alloc (.cells #[.int .u64 (u : Int)] 25)).alloc (.cells #[.slice (some ⟨w2.heap.size, 0, none⟩) 1 1] 22)).grownBy w3 (Value.slice vo q vc).ownBlock := hgrow
                  obtain ⟨vo3, vc3, rfl, -⟩ := own_form hown1
                  have hsn := HG2.out.snoc (by omega) (by rw [HQ.out]; exact hown1) hg2
                  have hb3 := below_append ((HB2.out.alloc HB2.out.size (.cells #[.int .u64 (u : Int)] 25)).alloc (by have := HB2.out.size; simp; omega) (.cells #[.slice (some ⟨w2.heap.size, 0, none⟩) 1 1] 22)) ((hown.alloc (.cells #[.int .u64 (u : Int)] 25)).alloc (.cells #[.slice (some ⟨w2.heap.size, 0, none⟩) 1 1] 22)) (by have := HB2.out.size; simp; omega) hg2
                  have HF := Lib.hid (And.intro hsn hb3)
                  have HL2 : Hid ((vs ++ [Value.slice (some ⟨w2.heap.size, 0, none⟩) 1 1]).length = q + 1) := by show _ = _; simp [HQ.out]
                  clear hsn hb3 hown1 hgrow hg2 hown
                  go_roundw
                  case rel => exact ⟨k + 1, _, _, _, _, vo3, q + 1, vc3, rfl, by omega, by go_num, rfl, rfl, by omega, HST.out, HL2.out, HF.out⟩
                  case measure => simp [intOf]; omega
          · have hnk : n ≤ k := by omega
            have hs := HS.out
            rw [HEND.out k hnk] at hs
            have hG : G = grpF L := by rw [HGF.out, hs]
            have hgc := groups_any lo lc L wr w1.heap.size (HWX1.out.below HI.out.2 (Nat.le_refl _)) (by rw [HLL.out]; omega) HL64.out
            rw [HLL.out, ← hG] at hgc
            have HGC := Lib.hid hgc
            have hgl := HI.out.1.2.1.length
            rw [HQ.out] at hgl
            have HGL := Lib.hid hgl
            have HBR := Lib.hid (HB1.out.trans (HI.out.2.mono HB1.out.size))
            have hgr := HROW.out n (Nat.le_refl n)
            rw [HEND.out n (Nat.le_refl n), hs] at hgr
            have HGRW : Hid (∀ i, i < G.length → (G.getD i []).length ≤ 1000) := fun i hi => by
              have h := hgr (G.getD i []) (by rw [List.getD_eq_getElem?_getD, List.getElem?_eq_getElem hi, Option.getD_some]; exact List.getElem_mem hi)
              omega
            clear hgr
            have q9 : ((q : Int) != (q : Int)) = false := by simp
            have hsz1 := HI.out.2.size
            clear hgc hgl hs hG HS HGF HEND HTK HHAS HLEN HROW
            go_wp2_with fail
            refine HGC.out.mono ?_
            rintro e w2 ⟨gao, gc, gvs, rfl, hgg, hb2⟩
            obtain ⟨gn, hgn⟩ : ∃ gn, gvs.length = gn := ⟨_, rfl⟩
            have hgq : q = gn := by rw [← hgn, hgg.2.1.length, HGL.out]
            rw [hgn] at hgg ⊢
            obtain rfl := hgq
            have HGN := Lib.hid hgn
            have HGG := Lib.hid (hgg.base hsz1)
            have HIG := Lib.hid (HI.out.1.later hb2)
            have HB2 := Lib.hid (HBR.out.trans (hb2.mono HBR.out.size))
            have HRL : Hid (∀ i, i < q → (G.getD i []).length ≤ 1000) := fun i hi => by
              have := HQ.out
              exact HGRW.out i (by rw [← HGL.out]; exact hi)
            clear hgn hgg hb2 HI HGC HBR hsz1 HB1
            go_wp2
            go_loopw [28] (fun i wy => ∃ k2 : Nat, k2 ≤ q ∧ i = .int .i64 k2 ∧ Hid (Below w2.heap.size w2 wy ∧ True)) (fun i _ => q - (intOf i).toNat)
            case atStart => exact ⟨0, by omega, rfl, Below.refl _ _, trivial⟩
            case round =>
              obtain ⟨k2, hk2, rfl, hbk, -⟩ := hrel
              have HBK := Lib.hid hbk
              clear hbk
              by_cases hkn : k2 < q
              · have hga := HGG.out.later HBK.out
                have hia := HIG.out.later HBK.out
                have hrl := HRL.out k2 hkn
                have hgi := hga.2.1.get (i := k2) (by rw [← HGL.out]; exact hkn)
                have hii := hia.2.1.get (i := k2) (by rw [← HGL.out]; exact hkn)
                obtain ⟨go', gc', hgv, -, hgo⟩ := own_form hga.1
                simp only [Value.slice.injEq] at hgv
                obtain ⟨rfl, -, rfl⟩ := hgv
                obtain ⟨gg, rfl, -, hggs, hgc⟩ := hgo (by rw [HGN.out]; omega)
                obtain ⟨io', ic', hiv, -, hio⟩ := own_form hia.1
                simp only [Value.slice.injEq] at hiv
                obtain ⟨rfl, -, rfl⟩ := hiv
                obtain ⟨ig, rfl, -, higs, hicc⟩ := hio (by rw [HQ.out]; omega)
                have g0 := hgc k2 _ (List.getElem?_eq_getElem (by rw [HGN.out]; exact hkn))
                have i0' := hicc k2 _ (List.getElem?_eq_getElem (by rw [HQ.out]; exact hkn))
                rw [show gvs[k2]'(by rw [HGN.out]; exact hkn) = gvs.getD k2 undef by rw [List.getD_eq_getElem?_getD, List.getElem?_eq_getElem (by rw [HGN.out]; exact hkn)]; rfl] at g0
                rw [show vs[k2]'(by rw [HQ.out]; exact hkn) = vs.getD k2 undef by rw [List.getD_eq_getElem?_getD, List.getElem?_eq_getElem (by rw [HQ.out]; exact hkn)]; rfl] at i0'
                obtain ⟨xo, xc, hxv, -, -⟩ := own_form hgi
                obtain ⟨yo, yc, hyv, -, -⟩ := own_form hii
                rw [hxv] at g0 hgi
                rw [hyv] at i0' hii
                generalize G.getD k2 [] = gl at *
                obtain ⟨m3, hm3⟩ : ∃ m3, gl.length = m3 := ⟨_, rfl⟩
                have HSA : Hid (∀ wx, Below wr.heap.size wr wx → Calls Tryz.prog 24 #[.slice xo m3 xc, .slice yo m3 yc] wx fun e w' => e = .returned (.bool true) ∧ Below wx.heap.size wx w') := fun wx hx => by
                  have h := same_any xo yo xc yc gl gl wx wr.heap.size wr.heap.size ((words_own rfl hgi).below hx (Nat.le_refl _)) ((words_own rfl hii).below hx (Nat.le_refl _)) (by omega)
                  rw [hm3, decide_eq_true rfl] at h
                  exact h
                rw [hm3] at g0 i0'
                have HCX : Hid (∀ wx, Below wr.heap.size wr wx → wx.cell? ⟨gg, k2, none⟩ = some (.slice xo m3 xc) ∧ wx.cell? ⟨ig, k2, none⟩ = some (.slice yo m3 yc)) := fun wx hx => ⟨(hx.cell (p := ⟨gg, k2, none⟩) hggs).trans g0, (hx.cell (p := ⟨ig, k2, none⟩) higs).trans i0'⟩
                clear hga hia hgi hii hgo hio hgc hicc hxv hyv hm3 hrl
                go_upto_region 36 with (fail)
                clear g0 i0'
                refine wp_region_inv (fun w w' => Below w.heap.size w w') (fun qi_ qv_ _ => qv_ = ([.slice (some ⟨gg, 0, none⟩) q gc, .int .i64 k2, .pointer (some ⟨gg, k2, none⟩), .slice xo m3 xc, .slice (some ⟨ig, 0, none⟩) q vc, .int .i64 k2, .pointer (some ⟨ig, k2, none⟩), .slice yo m3 yc, .bool true, .bool false] : List Value).getD qi_ undef) (by kernel_rfl) (by kernel_rfl) (fun _ => Below.refl _ _) (fun _ _ _ h1 h2 => below_later h1 h1.size h2) (fun _ _ _ _ _ _ h => h) ?_
                refine inv_cons (fun wx hg hd => ?_) (fun v0 => ?_)
                · have hx := ((Below.refl wr.heap.size wr).drew).trans hg
                  clear hd hg
                  go_wp2
                  exact ⟨_, rfl, Below.refl _ _, rfl⟩
                (try simp only [List.nil_append, Act.put, List.setIfInBounds_toArray, List.set_cons_zero, List.set_cons_succ])
                refine inv_cons (fun wx hg hd => ?_) (fun v1 => ?_)
                · have hx := ((Below.refl wr.heap.size wr).drew).trans hg
                  clear hd hg
                  go_wp2
                  exact ⟨_, rfl, Below.refl _ _, rfl⟩
                (try simp only [List.cons_append, List.nil_append, Act.put, List.setIfInBounds_toArray, List.set_cons_zero, List.set_cons_succ])
                refine inv_cons (fun wx hg hd => ?_) (fun v2 => ?_)
                · have hx := ((Below.refl wr.heap.size wr).drew).trans hg
                  (try (have ee : v0 = (.slice (some ⟨gg, 0, none⟩) q gc : Value) := hd 0 (by simp) (by decide); subst ee))
                  (try (have ee : v1 = (.int .i64 k2 : Value) := hd 1 (by simp) (by decide); subst ee))
                  clear hd hg
                  go_wp2
                  exact ⟨_, rfl, Below.refl _ _, rfl⟩
                (try simp only [List.cons_append, List.nil_append, Act.put, List.setIfInBounds_toArray, List.set_cons_zero, List.set_cons_succ])
                refine inv_cons (fun wx hg hd => ?_) (fun v3 => ?_)
                · have hx := ((Below.refl wr.heap.size wr).drew).trans hg
                  (try (have ee : v2 = (.pointer (some ⟨gg, k2, none⟩) : Value) := hd 2 (by simp) (by decide); subst ee))
                  clear hd hg
                  obtain ⟨k1, k3⟩ := HCX.out _ hx
                  go_wp2
                  exact ⟨_, rfl, Below.refl _ _, rfl⟩
                (try simp only [List.cons_append, List.nil_append, Act.put, List.setIfInBounds_toArray, List.set_cons_zero, List.set_cons_succ])
                refine inv_cons (fun wx hg hd => ?_) (fun v4 => ?_)
                · have hx := ((Below.refl wr.heap.size wr).drew).trans hg
                  clear hd hg
                  go_wp2
                  exact ⟨_, rfl, Below.refl _ _, rfl⟩
                (try simp only [List.cons_append, List.nil_append, Act.put, List.setIfInBounds_toArray, List.set_cons_zero, List.set_cons_succ])
                refine inv_cons (fun wx hg hd => ?_) (fun v5 => ?_)
                · have hx := ((Below.refl wr.heap.size wr).drew).trans hg
                  clear hd hg
                  go_wp2
                  exact ⟨_, rfl, Below.refl _ _, rfl⟩
                (try simp only [List.cons_append, List.nil_append, Act.put, List.setIfInBounds_toArray, List.set_cons_zero, List.set_cons_succ])
                refine inv_cons (fun wx hg hd => ?_) (fun v6 => ?_)
                · have hx := ((Below.refl wr.heap.size wr).drew).trans hg
                  (try (have ee : v4 = (.slice (some ⟨ig, 0, none⟩) q vc : Value) := hd 4 (by simp) (by decide); subst ee))
                  (try (have ee : v5 = (.int .i64 k2 : Value) := hd 5 (by simp) (by decide); subst ee))
                  clear hd hg
                  go_wp2
                  exact ⟨_, rfl, Below.refl _ _, rfl⟩
                (try simp only [List.cons_append, List.nil_append, Act.put, List.setIfInBounds_toArray, List.set_cons_zero, List.set_cons_succ])
                refine inv_cons (fun wx hg hd => ?_) (fun v7 => ?_)
                · have hx := ((Below.refl wr.heap.size wr).drew).trans hg
                  (try (have ee : v6 = (.pointer (some ⟨ig, k2, none⟩) : Value) := hd 6 (by simp) (by decide); subst ee))
                  clear hd hg
                  obtain ⟨k1, k3⟩ := HCX.out _ hx
                  go_wp2
                  exact ⟨_, rfl, Below.refl _ _, rfl⟩
                (try simp only [List.cons_append, List.nil_append, Act.put, List.setIfInBounds_toArray, List.set_cons_zero, List.set_cons_succ])
                refine inv_cons (fun wx hg hd => ?_) (fun v8 => ?_)
                · have hx := ((Below.refl wr.heap.size wr).drew).trans hg
                  (try (have ee : v3 = (.slice xo m3 xc : Value) := hd 3 (by simp) (by decide); subst ee))
                  (try (have ee : v7 = (.slice yo m3 yc : Value) := hd 7 (by simp) (by decide); subst ee))
                  clear hd hg
                  go_wp2_with fail
                  refine (HSA.out _ hx).mono ?_
                  rintro e w' ⟨rfl, hb⟩
                  go_wp2
                  exact ⟨_, rfl, hb, rfl⟩
                (try simp only [List.cons_append, List.nil_append, Act.put, List.setIfInBounds_toArray, List.set_cons_zero, List.set_cons_succ])
                refine inv_cons (fun wx hg hd => ?_) (fun v9 => ?_)
                · have hx := ((Below.refl wr.heap.size wr).drew).trans hg
                  (try (have ee : v8 = (.bool true : Value) := hd 8 (by simp) (by decide); subst ee))
                  clear hd hg
                  go_wp2
                  exact ⟨_, rfl, Below.refl _ _, rfl⟩
                (try simp only [List.cons_append, List.nil_append, Act.put, List.setIfInBounds_toArray, List.set_cons_zero, List.set_cons_succ])
                refine inv_done (fun wx hg hd => ?_)
                have hx := ((Below.refl wr.heap.size wr).drew).trans hg
                (have ee : v0 = (.slice (some ⟨gg, 0, none⟩) q gc : Value) := hd 0 (by simp); subst ee)
                (have ee : v1 = (.int .i64 k2 : Value) := hd 1 (by simp); subst ee)
                (have ee : v2 = (.pointer (some ⟨gg, k2, none⟩) : Value) := hd 2 (by simp); subst ee)
                (have ee : v3 = (.slice xo m3 xc : Value) := hd 3 (by simp); subst ee)
                (have ee : v4 = (.slice (some ⟨ig, 0, none⟩) q vc : Value) := hd 4 (by simp); subst ee)
                (have ee : v5 = (.int .i64 k2 : Value) := hd 5 (by simp); subst ee)
                (have ee : v6 = (.pointer (some ⟨ig, k2, none⟩) : Value) := hd 6 (by simp); subst ee)
                (have ee : v7 = (.slice yo m3 yc : Value) := hd 7 (by simp); subst ee)
                (have ee : v8 = (.bool true : Value) := hd 8 (by simp); subst ee)
                (have ee : v9 = (.bool false : Value) := hd 9 (by simp); subst ee)
                clear hd hg
                (try go_simp)
                have HB5 := Lib.hid (HBK.out.trans (hx.mono HBK.out.size))
                clear hx HSA HCX HBK
                go_wp2
                go_roundw
                case rel => exact ⟨k2 + 1, by omega, by go_num, HB5.out, trivial⟩
                case measure => simp [intOf]; omega
              · have hkn2 : q ≤ k2 := by omega
                have HBB := Lib.hid (HB2.out.trans (HBK.out.mono HB2.out.size))
                go_wp2_with fail
                refine (HAW.out _).mono ?_
                rintro e w5 ⟨rfl, hb5⟩
                have HF := Lib.hid (HBB.out.trans (hb5.mono HBB.out.size))
                clear hb5
                go_wp2
                go_ret
                exact ⟨rfl, HF.out⟩
end Go.Proofs.YtkjfdaleamonaaaGreat.cellsChecks
