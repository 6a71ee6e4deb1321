/- The walk of the law PackSpreads. -/
import Derived.Test.YtkjfdaleamonaaaGreatPackAJ
import Derived.Test.YtkjfdaleamonaaaGreatPackAK
namespace Go.Proofs.YtkjfdaleamonaaaGreat.packSpreads
open Go.RowKit Go.Lib Go.Sort Wd

theorem in_ds {p T : Nat} {z : E2} (hz : okB p z = true) (hp : p ≤ T) (hT : T ≤ 12) {v : Int} (hv : v ∈ dsN (T - p) p z) :
    ∃ u : Nat, v = u ∧ u < 18446744073709551616 ∧ inB u (wordN p z) = true ∧ covB [(wordN p z : Int)] u = true := by
  obtain ⟨y, hy, hu, rfl⟩ := (ds_mem (T - p) p z (by omega) hz v).1 hv
  rw [show p + (T - p) = T by omega] at hy ⊢
  obtain ⟨a1, a2, a3⟩ := word_cell hy
  obtain ⟨b1, b2, b3⟩ := word_cell hz
  have hwi : wiB (wordN T y) (wordN p z) = true := by
    unfold wiB
    rw [b1]
    unfold cvR cvZ winB
    rw [if_pos a1, if_pos a1, if_pos b1, if_pos b1, a2, a3, b2, b3, hy, hz, decide_eq_true (by omega), show ((T : Int) - (p : Int)).toNat = T - p by omega, hu]
    simp
  refine ⟨_, rfl, by have := (wordN_lt hy).1; omega, ?_, ?_⟩
  · unfold inB; rw [a1, hwi]; rfl
  · unfold covB
    rw [a1, List.any_cons, Int.toNat_natCast, hwi]; rfl
set_option maxRecDepth 100000 in
set_option maxHeartbeats 8000000 in
theorem walk {w : World} (a0 : Int) (_w0 : (Lit.int .i64 a0).wf = true) (a1 : Int) (_w1 : (Lit.int .i64 a1).wf = true) (a2 : Int) (_w2 : (Lit.int .i64 a2).wf = true) (a3 : Int) (_w3 : (Lit.int .i64 a3).wf = true) :
    Calls Tryz.prog 12 #[.int .i64 a0, .int .i64 a1, .int .i64 a2, .int .i64 a3] w fun e w' => e = .returned (.bool true) ∧ Below w.heap.size w w' := by
  have HAW := Lib.hid awake8_any
  have hLA := fun w => lword_w a0 a1 a2 w
  obtain ⟨p, hp⟩ : ∃ p, (a2 % 13).toNat = p := ⟨_, rfl⟩
  rw [hp] at hLA
  have hp12 : p ≤ 12 := by omega
  have hA := some_ok a0 a1 (r := p) hp12
  clear hp
  obtain ⟨d, ed, hd⟩ : ∃ e : Nat, bits BinOp.and IntKind.i64 a3 3 = (e : Int) ∧ e ≤ 3 := ⟨(a3 % 4).toNat, by rw [i64_and_mask a3 2 (by omega) 3 rfl]; omega, by omega⟩
  obtain ⟨T, hT⟩ : ∃ T, min (p + d) 12 = T := ⟨_, rfl⟩
  have hT1 : T ≤ 12 := by omega
  have hT2 : p ≤ T := by omega
  have hT3 : T - p ≤ 3 := by omega
  generalize someE a0 a1 p = z at *
  obtain ⟨b1, b2, b3⟩ := word_cell hA
  have lW := (wordN_lt hA).1
  have HRC : Hid (∀ w, Calls Tryz.prog 16 #[.int .u64 (wordN p z : Nat)] w fun e w' => e = .returned (.tuple #[.agg #[.int .i64 p, .int .i64 z.1, .int .i64 z.2], .int .i64 0]) ∧ Below w.heap.size w w') := fun w => by
    have h := rcell_any (wordN p z) (by omega) w
    unfold cvR cvZ cvE at h
    rw [if_pos b1, if_pos b1, if_pos b1, b2, b3] at h
    exact h
  obtain ⟨z1, z2⟩ := one_size hA hT1 hT2
  obtain ⟨s1, s2⟩ := one_spread hA hT1 hT2 (by omega)
  have hL : (dsN (T - p) p z).length = 7 ^ (T - p) := ds_len _ _ _
  have hS := ds_sized (d := T - p) (k := p) (by omega) hA
  rw [show p + (T - p) = T by omega] at hS
  have hU := ds_up (T - p) p z (by omega) hA
  have hP := packF_ds (d := T - p) (k := p) (by omega) hA
  rw [show p + (T - p) = T by omega] at hP
  have hIN : ∀ v ∈ dsN (T - p) p z, _ := fun v hv => in_ds hA hT2 hT1 hv
  have hSV : ∀ w, Calls Tryz.prog 31 #[.int .i64 ((T - p : Nat) : Int)] w fun e w' => e = .returned (.int .i64 ((7 ^ (T - p) : Nat) : Int)) ∧ Below w.heap.size w w' := fun w => by
    have := rseven_in (T - p) (by omega) w
    rwa [show ((7 : Int) ^ (T - p)) = ((7 ^ (T - p) : Nat) : Int) by rw [Int.natCast_pow]; rfl] at this
  have hX1 : 7 ^ (T - p) ≤ 343 := Nat.le_trans (Nat.pow_le_pow_right (by decide) hT3) (by decide)
  have hX0 : 0 < 7 ^ (T - p) := Nat.pow_pos (by decide)
  have hN : szN [(wordN p z : Int)] T = ((7 ^ (T - p) : Nat) : Int) := by
    unfold szN
    rw [z1, if_pos rfl, Int.toNat_natCast, z2]
  generalize dsN (T - p) p z = L at *
  generalize 7 ^ (T - p) = X at *
  generalize wordN p z = W at *
  have i64 : In64 [(W : Int)] := in64_cons (by omega) in64_nil
  have HSP : Hid (∀ wx : World, Calls Tryz.prog 25 #[.slice (some ⟨wx.heap.size, 0, none⟩) 1 1, .int .i64 T] (wx.alloc (.cells #[.int .u64 W] 25)) fun e w' => ∃ ao c, e = .returned (.tuple #[.slice ao X c, .int .i64 0]) ∧ WordsAt w' w'.heap.size ao L ∧ Below wx.heap.size wx w') := fun wx => by
    refine (spread_any (some ⟨wx.heap.size, 0, none⟩) 1 [(W : Int)] T _ (wx.heap.size + 1) (words_new wx [(W : Int)] 25) (by simp) (by simp) i64).mono ?_
    rintro e w' ⟨ao, c, rfl, -, hw, hb⟩
    rw [s1, s2, hL]
    rw [s2] at hw
    exact ⟨ao, c, rfl, hw, below_alloc hb⟩
  have HSZ : Hid (∀ wx : World, Calls Tryz.prog 29 #[.slice (some ⟨wx.heap.size, 0, none⟩) 1 1, .int .i64 T] (wx.alloc (.cells #[.int .u64 W] 25)) fun e w' => e = .returned (.tuple #[.int .i64 X, .int .i64 0]) ∧ Below wx.heap.size wx w') := fun wx => by
    refine (psize_any (some ⟨wx.heap.size, 0, none⟩) 1 [(W : Int)] T _ (wx.heap.size + 1) (words_new wx [(W : Int)] 25) (by simp) (by simp) i64).mono ?_
    rintro e w' ⟨rfl, hb⟩
    rw [hN, z1]
    exact ⟨rfl, below_alloc hb⟩
  have HC : Hid (∀ lo lc wx, WordsAt wx wx.heap.size lo L → Calls Tryz.prog 26 #[.slice lo X lc] wx (ToldP wx [(W : Int)] 0)) := fun lo lc wx h => by
    obtain ⟨g1, g2, -⟩ := sized_cmp hS (by omega)
    have hne : L ≠ [] := fun e => by rw [e] at hL; simp at hL; omega
    have := compact_any lo lc L wx wx.heap.size h (Nat.le_refl _) (by omega) (sized_64 hS)
    rwa [hL, g1, g2 hne, hP] at this
  have HEL : Hid (∀ i, i < X → ∃ u : Nat, L.getD i 0 = u ∧ (∀ wx, Calls Tryz.prog 38 #[.int .u64 u, .int .u64 W] wx fun e w' => e = .returned (.bool true) ∧ Below wx.heap.size wx w') ∧ ∀ ao c wx, WordsAt wx wx.heap.size ao [(W : Int)] → Calls Tryz.prog 32 #[.slice ao 1 c, .int .u64 u] wx fun e w' => e = .returned (.bool true) ∧ Below wx.heap.size wx w') := fun i hi => by
    obtain ⟨u, h1, h2, h3, h4⟩ := hIN _ (getD_mem (l := L) (j := i) (by omega))
    refine ⟨u, h1, fun wx => ?_, fun ao c wx h => ?_⟩
    · have := wordin_any u W h2 (by omega) wx
      rwa [h3] at this
    · have := covers_any ao c [(W : Int)] u h2 wx wx.heap.size h (Nat.le_refl _) (by simp) i64
      rwa [h4] at this
  have HUP : Hid (∀ i, i + 1 < X → L.getD i 0 < L.getD (i + 1) 0) := fun i hi => by
    have := (List.pairwise_iff_getElem.1 hU) i (i + 1) (by omega) (by omega) (by omega)
    rw [List.getD_eq_getElem?_getD, List.getD_eq_getElem?_getD, List.getElem?_eq_getElem (by omega), List.getElem?_eq_getElem (by omega)]
    exact this
  have HSAME : Hid (∀ (ao : Option Addr) (c : Nat) (wx : World), WordsAt wx wx.heap.size ao [(W : Int)] → Calls Tryz.prog 24 #[.slice ao 1 c, .slice (some ⟨wx.heap.size, 0, none⟩) 1 1] (wx.alloc (.cells #[.int .u64 W] 25)) fun e w' => e = .returned (.bool true) ∧ Below wx.heap.size wx w') := fun ao c wx h => by
    have hb0 : Below wx.heap.size wx (wx.alloc (.cells #[.int .u64 W] 25)) := (Below.refl _ _).alloc (Nat.le_refl _) _
    refine (same_any ao (some ⟨wx.heap.size, 0, none⟩) c 1 [(W : Int)] [(W : Int)] _ _ _ (h.below hb0 (Nat.le_refl _)) (words_new wx [(W : Int)] 25) (by simp)).mono ?_
    rintro e w' ⟨rfl, hb⟩
    exact ⟨by rw [decide_eq_true rfl], below_alloc hb⟩
  have HLA := Lib.hid hLA
  have HSV := Lib.hid hSV
  have HLL := Lib.hid hL
  clear hLA hSV hIN hU hS hP hN s1 s2 z1 z2 i64 b1 b2 b3 hL hA lW
  have hsub : (T : Int) - (p : Int) = ((T - p : Nat) : Int) := by omega
  have hmin : min ((p : Int) + (d : Int)) 12 = (T : Int) := by omega
  go_enter Tryz.func12, Tryz.ntmps12
  go_wp2_with fail
  refine (HLA.out _).mono ?_
  rintro e w1 ⟨rfl, hb1⟩
  go_wp2_with fail
  refine (HRC.out _).mono ?_
  rintro e w2 ⟨rfl, hb2⟩
  have hb3 := hb1.trans (hb2.mono hb1.size)
  have B1 : Hid (Below w.heap.size w (w2.alloc (.cells #[.int .i64 p, .int .i64 z.1, .int .i64 z.2] 32))) := hb3.alloc hb3.size _
  have T1 : Hid (Tri (w2.alloc (.cells #[.int .i64 p, .int .i64 z.1, .int .i64 z.2] 32)) w2.heap.size p z) := heap_new _ _ _ rfl
  clear hb1 hb2 hb3
  go_upto_region 3 with (fail)
  generalize w2.alloc (.cells #[.int .i64 p, .int .i64 z.1, .int .i64 z.2] 32) = w3 at *
  obtain ⟨t0, t1, t2, t3, t4, t5, t6⟩ := T1.out.cells
  go_wp2_with fail
  refine (HSP.out _).mono ?_
  rintro e w4 ⟨so, sc, rfl, hw4, hb4⟩
  have B4 := Lib.hid (B1.out.trans (hb4.mono B1.out.size))
  have T4 := Lib.hid (T1.out.later hb4)
  have W4 := Lib.hid hw4
  clear hw4 hb4 B1 T1 t0 t1 t2 t3 t4 t5 t6
  go_wp2_with fail
  refine (HSZ.out _).mono ?_
  rintro e w5 ⟨rfl, hb5⟩
  have B5 := Lib.hid (B4.out.trans (hb5.mono B4.out.size))
  have T5 := Lib.hid (T4.out.later hb5)
  have W5 := Lib.hid ((W4.out.below hb5 (Nat.le_refl _)).wider hb5.size)
  clear hb5 B4 T4 W4
  obtain ⟨t0, t1, t2, t3, t4, t5, t6⟩ := T5.out.cells
  go_wp2_with fail
  refine (HSV.out _).mono ?_
  rintro e w6 ⟨rfl, hb6⟩
  have B6 := Lib.hid (B5.out.trans (hb6.mono B5.out.size))
  have W6 := Lib.hid ((W5.out.below hb6 (Nat.le_refl _)).wider hb6.size)
  clear hb6 B5 T5 W5 t0 t1 t2 t3 t4 t5 t6
  go_wp2
  go_loopw [17] (fun i wr => ∃ k : Nat, k ≤ X ∧ i = .int .i64 k ∧ Hid (WordsAt wr wr.heap.size so L ∧ Below w.heap.size w wr)) (fun i _ => X - (intOf i).toNat)
  case atStart => exact ⟨0, Nat.zero_le _, rfl, W6.out, B6.out⟩
  case round =>
    obtain ⟨k, hk, rfl, HI⟩ := hrel
    by_cases hlt : k < X
    · obtain ⟨g, off, rfl, hg, hc⟩ := HI.out.1 (by rw [HLL.out]; omega)
      obtain ⟨u, e1, h1, h2⟩ := HEL.out k hlt
      have c0 := hc k (by rw [HLL.out]; exact hlt)
      rw [e1] at c0
      have H1 := Lib.hid h1
      have H2 := Lib.hid h2
      have q1 : decide ((k : Int) < (X : Int)) = true := decide_eq_true (by omega)
      have hkb := hlt
      by_cases hk0 : k = 0
      · have q2 : decide (0 < (k : Int)) = false := decide_eq_false (by omega)
        have q3 : decide (0 < k) = false := decide_eq_false (by omega)
        subst hk0
        rw [Nat.add_zero] at c0
        clear h1 h2 e1 hc
        go_upto_region 11 with (fail)
        refine wp_region_inw ([.inl (.slice (some ⟨g, off, none⟩) X sc), .inl (.int .i64 0), .inl (.pointer (some ⟨g, off, none⟩)), .inl (.int .u64 u), .inl (.int .u64 W), .inl (.bool true), .inl (.bool false), .inl (.bool false), .inl (.int .i64 0), .inl (.bool false), .inl (.bool false), .inl (undef), .inl (undef), .inl (undef), .inl (undef), .inl (undef), .inl (undef), .inl (undef), .inl (undef), .inl (undef), .inl (undef), .inl (.bool false), .inl (.bool false), .inl (.bool false), .inl (.int .u64 W), .inr (uW 1 [(W : Int)]), .inl (.slice (some ⟨g, off, none⟩) X sc), .inl (.int .i64 0), .inl (.pointer (some ⟨g, off, none⟩)), .inl (.int .u64 u), .inl (.bool true), .inl (.bool false), .inl (.bool false)] : List Want) [] (by kernel_rfl) (by kernel_rfl) (by kernel_rfl) ?_
        refine inw_cons (fun wx hg hd => ?_) (fun v0 => ?_)
        · have hx := ((Below.refl wr.heap.size wr).drew).trans hg
          clear hd hg
          go_wp2
          exact ⟨_, rfl, Below.refl _ _, rfl⟩
        (try simp only [List.nil_append, Act.put, List.setIfInBounds_toArray, List.set_cons_zero, List.set_cons_succ])
        refine inw_cons (fun wx hg hd => ?_) (fun v1 => ?_)
        · have hx := ((Below.refl wr.heap.size wr).drew).trans hg
          clear hd hg
          go_wp2
          exact ⟨_, rfl, Below.refl _ _, rfl⟩
        (try simp only [List.cons_append, List.nil_append, Act.put, List.setIfInBounds_toArray, List.set_cons_zero, List.set_cons_succ])
        refine inw_cons (fun wx hg hd => ?_) (fun v2 => ?_)
        · have hx := ((Below.refl wr.heap.size wr).drew).trans hg
          (try (have ee : v0 = (.slice (some ⟨g, off, none⟩) X sc : Value) := hd 0 (by simp) (by decide); subst ee))
          (try (have ee : v1 = (.int .i64 0 : Value) := hd 1 (by simp) (by decide); subst ee))
          clear hd hg
          go_wp2
          exact ⟨_, rfl, Below.refl _ _, rfl⟩
        (try simp only [List.cons_append, List.nil_append, Act.put, List.setIfInBounds_toArray, List.set_cons_zero, List.set_cons_succ])
        refine inw_cons (fun wx hg hd => ?_) (fun v3 => ?_)
        · have hx := ((Below.refl wr.heap.size wr).drew).trans hg
          (try (have ee : v2 = (.pointer (some ⟨g, off, none⟩) : Value) := hd 2 (by simp) (by decide); subst ee))
          clear hd hg
          have c1 : wx.cell? ⟨g, off, none⟩ = some (.int .u64 u) := (hx.cell (p := ⟨g, off, none⟩) hg).trans c0
          go_wp2
          exact ⟨_, rfl, Below.refl _ _, rfl⟩
        (try simp only [List.cons_append, List.nil_append, Act.put, List.setIfInBounds_toArray, List.set_cons_zero, List.set_cons_succ])
        refine inw_cons (fun wx hg hd => ?_) (fun v4 => ?_)
        · have hx := ((Below.refl wr.heap.size wr).drew).trans hg
          clear hd hg
          go_wp2
          exact ⟨_, rfl, Below.refl _ _, rfl⟩
        (try simp only [List.cons_append, List.nil_append, Act.put, List.setIfInBounds_toArray, List.set_cons_zero, List.set_cons_succ])
        refine inw_cons (fun wx hg hd => ?_) (fun v5 => ?_)
        · have hx := ((Below.refl wr.heap.size wr).drew).trans hg
          (try (have ee : v3 = (.int .u64 u : Value) := hd 3 (by simp) (by decide); subst ee))
          (try (have ee : v4 = (.int .u64 W : Value) := hd 4 (by simp) (by decide); subst ee))
          clear hd hg
          go_wp2_with fail
          refine (H1.out _).mono ?_
          rintro e w' ⟨rfl, hb⟩
          go_wp2
          exact ⟨_, rfl, hb, rfl⟩
        (try simp only [List.cons_append, List.nil_append, Act.put, List.setIfInBounds_toArray, List.set_cons_zero, List.set_cons_succ])
        refine inw_cons (fun wx hg hd => ?_) (fun v6 => ?_)
        · have hx := ((Below.refl wr.heap.size wr).drew).trans hg
          (try (have ee : v5 = (.bool true : Value) := hd 5 (by simp) (by decide); subst ee))
          clear hd hg
          go_wp2
          exact ⟨_, rfl, Below.refl _ _, rfl⟩
        (try simp only [List.cons_append, List.nil_append, Act.put, List.setIfInBounds_toArray, List.set_cons_zero, List.set_cons_succ])
        refine inw_cons (fun wx hg hd => ?_) (fun v7 => ?_)
        · have hx := ((Below.refl wr.heap.size wr).drew).trans hg
          (try (have ee : v6 = (.bool false : Value) := hd 6 (by simp) (by decide); subst ee))
          clear hd hg
          go_wp2
          exact ⟨_, rfl, Below.refl _ _, rfl⟩
        (try simp only [List.cons_append, List.nil_append, Act.put, List.setIfInBounds_toArray, List.set_cons_zero, List.set_cons_succ])
        refine inw_cons (fun wx hg hd => ?_) (fun v8 => ?_)
        · have hx := ((Below.refl wr.heap.size wr).drew).trans hg
          (try (have ee : v7 = (.bool false : Value) := hd 7 (by simp) (by decide); subst ee))
          clear hd hg
          go_wp2
          exact ⟨_, rfl, Below.refl _ _, rfl⟩
        (try simp only [List.cons_append, List.nil_append, Act.put, List.setIfInBounds_toArray, List.set_cons_zero, List.set_cons_succ])
        refine inw_cons (fun wx hg hd => ?_) (fun v9 => ?_)
        · have hx := ((Below.refl wr.heap.size wr).drew).trans hg
          (try (have ee : v7 = (.bool false : Value) := hd 7 (by simp) (by decide); subst ee))
          (try (have ee : v8 = (.int .i64 0 : Value) := hd 8 (by simp) (by decide); subst ee))
          clear hd hg
          go_wp2
          exact ⟨_, rfl, Below.refl _ _, rfl⟩
        (try simp only [List.cons_append, List.nil_append, Act.put, List.setIfInBounds_toArray, List.set_cons_zero, List.set_cons_succ])
        refine inw_cons (fun wx hg hd => ?_) (fun v10 => ?_)
        · have hx := ((Below.refl wr.heap.size wr).drew).trans hg
          (try (have ee : v7 = (.bool false : Value) := hd 7 (by simp) (by decide); subst ee))
          (try (have ee : v9 = (.bool false : Value) := hd 9 (by simp) (by decide); subst ee))
          clear hd hg
          go_wp2
          exact ⟨_, rfl, Below.refl _ _, rfl⟩
        (try simp only [List.cons_append, List.nil_append, Act.put, List.setIfInBounds_toArray, List.set_cons_zero, List.set_cons_succ])
        refine inw_cons (fun wx hg hd => ?_) (fun v11 => ?_)
        · have hx := ((Below.refl wr.heap.size wr).drew).trans hg
          (try (have ee : v10 = (.bool false : Value) := hd 10 (by simp) (by decide); subst ee))
          clear hd hg
          go_wp2
          exact ⟨_, rfl, Below.refl _ _, rfl⟩
        (try simp only [List.cons_append, List.nil_append, Act.put, List.setIfInBounds_toArray, List.set_cons_zero, List.set_cons_succ])
        refine inw_cons (fun wx hg hd => ?_) (fun v12 => ?_)
        · have hx := ((Below.refl wr.heap.size wr).drew).trans hg
          (try (have ee : v10 = (.bool false : Value) := hd 10 (by simp) (by decide); subst ee))
          clear hd hg
          go_wp2
          exact ⟨_, rfl, Below.refl _ _, rfl⟩
        (try simp only [List.cons_append, List.nil_append, Act.put, List.setIfInBounds_toArray, List.set_cons_zero, List.set_cons_succ])
        refine inw_cons (fun wx hg hd => ?_) (fun v13 => ?_)
        · have hx := ((Below.refl wr.heap.size wr).drew).trans hg
          (try (have ee : v10 = (.bool false : Value) := hd 10 (by simp) (by decide); subst ee))
          (try (have ee : v12 = (undef : Value) := hd 12 (by simp) (by decide); subst ee))
          clear hd hg
          go_wp2
          exact ⟨_, rfl, Below.refl _ _, rfl⟩
        (try simp only [List.cons_append, List.nil_append, Act.put, List.setIfInBounds_toArray, List.set_cons_zero, List.set_cons_succ])
        refine inw_cons (fun wx hg hd => ?_) (fun v14 => ?_)
        · have hx := ((Below.refl wr.heap.size wr).drew).trans hg
          (try (have ee : v10 = (.bool false : Value) := hd 10 (by simp) (by decide); subst ee))
          (try (have ee : v11 = (undef : Value) := hd 11 (by simp) (by decide); subst ee))
          (try (have ee : v13 = (undef : Value) := hd 13 (by simp) (by decide); subst ee))
          clear hd hg
          go_wp2
          exact ⟨_, rfl, Below.refl _ _, rfl⟩
        (try simp only [List.cons_append, List.nil_append, Act.put, List.setIfInBounds_toArray, List.set_cons_zero, List.set_cons_succ])
        refine inw_cons (fun wx hg hd => ?_) (fun v15 => ?_)
        · have hx := ((Below.refl wr.heap.size wr).drew).trans hg
          (try (have ee : v10 = (.bool false : Value) := hd 10 (by simp) (by decide); subst ee))
          (try (have ee : v14 = (undef : Value) := hd 14 (by simp) (by decide); subst ee))
          clear hd hg
          go_wp2
          exact ⟨_, rfl, Below.refl _ _, rfl⟩
        (try simp only [List.cons_append, List.nil_append, Act.put, List.setIfInBounds_toArray, List.set_cons_zero, List.set_cons_succ])
        refine inw_cons (fun wx hg hd => ?_) (fun v16 => ?_)
        · have hx := ((Below.refl wr.heap.size wr).drew).trans hg
          (try (have ee : v10 = (.bool false : Value) := hd 10 (by simp) (by decide); subst ee))
          clear hd hg
          go_wp2
          exact ⟨_, rfl, Below.refl _ _, rfl⟩
        (try simp only [List.cons_append, List.nil_append, Act.put, List.setIfInBounds_toArray, List.set_cons_zero, List.set_cons_succ])
        refine inw_cons (fun wx hg hd => ?_) (fun v17 => ?_)
        · have hx := ((Below.refl wr.heap.size wr).drew).trans hg
          (try (have ee : v10 = (.bool false : Value) := hd 10 (by simp) (by decide); subst ee))
          clear hd hg
          go_wp2
          exact ⟨_, rfl, Below.refl _ _, rfl⟩
        (try simp only [List.cons_append, List.nil_append, Act.put, List.setIfInBounds_toArray, List.set_cons_zero, List.set_cons_succ])
        refine inw_cons (fun wx hg hd => ?_) (fun v18 => ?_)
        · have hx := ((Below.refl wr.heap.size wr).drew).trans hg
          (try (have ee : v10 = (.bool false : Value) := hd 10 (by simp) (by decide); subst ee))
          (try (have ee : v16 = (undef : Value) := hd 16 (by simp) (by decide); subst ee))
          (try (have ee : v17 = (undef : Value) := hd 17 (by simp) (by decide); subst ee))
          clear hd hg
          go_wp2
          exact ⟨_, rfl, Below.refl _ _, rfl⟩
        (try simp only [List.cons_append, List.nil_append, Act.put, List.setIfInBounds_toArray, List.set_cons_zero, List.set_cons_succ])
        refine inw_cons (fun wx hg hd => ?_) (fun v19 => ?_)
        · have hx := ((Below.refl wr.heap.size wr).drew).trans hg
          (try (have ee : v10 = (.bool false : Value) := hd 10 (by simp) (by decide); subst ee))
          (try (have ee : v18 = (undef : Value) := hd 18 (by simp) (by decide); subst ee))
          clear hd hg
          go_wp2
          exact ⟨_, rfl, Below.refl _ _, rfl⟩
        (try simp only [List.cons_append, List.nil_append, Act.put, List.setIfInBounds_toArray, List.set_cons_zero, List.set_cons_succ])
        refine inw_cons (fun wx hg hd => ?_) (fun v20 => ?_)
        · have hx := ((Below.refl wr.heap.size wr).drew).trans hg
          (try (have ee : v10 = (.bool false : Value) := hd 10 (by simp) (by decide); subst ee))
          (try (have ee : v15 = (undef : Value) := hd 15 (by simp) (by decide); subst ee))
          (try (have ee : v19 = (undef : Value) := hd 19 (by simp) (by decide); subst ee))
          clear hd hg
          go_wp2
          exact ⟨_, rfl, Below.refl _ _, rfl⟩
        (try simp only [List.cons_append, List.nil_append, Act.put, List.setIfInBounds_toArray, List.set_cons_zero, List.set_cons_succ])
        refine inw_cons (fun wx hg hd => ?_) (fun v21 => ?_)
        · have hx := ((Below.refl wr.heap.size wr).drew).trans hg
          (try (have ee : v7 = (.bool false : Value) := hd 7 (by simp) (by decide); subst ee))
          (try (have ee : v10 = (.bool false : Value) := hd 10 (by simp) (by decide); subst ee))
          (try (have ee : v20 = (undef : Value) := hd 20 (by simp) (by decide); subst ee))
          clear hd hg
          go_wp2
          exact ⟨_, rfl, Below.refl _ _, rfl⟩
        (try simp only [List.cons_append, List.nil_append, Act.put, List.setIfInBounds_toArray, List.set_cons_zero, List.set_cons_succ])
        refine inw_cons (fun wx hg hd => ?_) (fun v22 => ?_)
        · have hx := ((Below.refl wr.heap.size wr).drew).trans hg
          (try (have ee : v7 = (.bool false : Value) := hd 7 (by simp) (by decide); subst ee))
          (try (have ee : v21 = (.bool false : Value) := hd 21 (by simp) (by decide); subst ee))
          clear hd hg
          go_wp2
          exact ⟨_, rfl, Below.refl _ _, rfl⟩
        (try simp only [List.cons_append, List.nil_append, Act.put, List.setIfInBounds_toArray, List.set_cons_zero, List.set_cons_succ])
        refine inw_cons (fun wx hg hd => ?_) (fun v23 => ?_)
        · have hx := ((Below.refl wr.heap.size wr).drew).trans hg
          (try (have ee : v22 = (.bool false : Value) := hd 22 (by simp) (by decide); subst ee))
          clear hd hg
          go_wp2
          exact ⟨_, rfl, Below.refl _ _, rfl⟩
        (try simp only [List.cons_append, List.nil_append, Act.put, List.setIfInBounds_toArray, List.set_cons_zero, List.set_cons_succ])
        refine inw_cons (fun wx hg hd => ?_) (fun v24 => ?_)
        · have hx := ((Below.refl wr.heap.size wr).drew).trans hg
          (try (have ee : v23 = (.bool false : Value) := hd 23 (by simp) (by decide); subst ee))
          clear hd hg
          go_wp2
          exact ⟨_, rfl, Below.refl _ _, rfl⟩
        (try simp only [List.cons_append, List.nil_append, Act.put, List.setIfInBounds_toArray, List.set_cons_zero, List.set_cons_succ])
        refine inw_cons (fun wx hg hd => ?_) (fun v25 => ?_)
        · have hx := ((Below.refl wr.heap.size wr).drew).trans hg
          (try (have ee : v23 = (.bool false : Value) := hd 23 (by simp) (by decide); subst ee))
          (try (have ee : v24 = (.int .u64 W : Value) := hd 24 (by simp) (by decide); subst ee))
          clear hd hg
          go_wp2
          exact ⟨_, rfl, (Below.refl _ _).alloc (Nat.le_refl _) _, _, _, rfl, (words_new wx [(W : Int)] 25).wider (by simp)⟩
        (try simp only [List.cons_append, List.nil_append, Act.put, List.setIfInBounds_toArray, List.set_cons_zero, List.set_cons_succ])
        refine inw_cons (fun wx hg hd => ?_) (fun v26 => ?_)
        · have hx := ((Below.refl wr.heap.size wr).drew).trans hg
          (try (have ee : v23 = (.bool false : Value) := hd 23 (by simp) (by decide); subst ee))
          clear hd hg
          go_wp2
          exact ⟨_, rfl, Below.refl _ _, rfl⟩
        (try simp only [List.cons_append, List.nil_append, Act.put, List.setIfInBounds_toArray, List.set_cons_zero, List.set_cons_succ])
        refine inw_cons (fun wx hg hd => ?_) (fun v27 => ?_)
        · have hx := ((Below.refl wr.heap.size wr).drew).trans hg
          (try (have ee : v23 = (.bool false : Value) := hd 23 (by simp) (by decide); subst ee))
          clear hd hg
          go_wp2
          exact ⟨_, rfl, Below.refl _ _, rfl⟩
        (try simp only [List.cons_append, List.nil_append, Act.put, List.setIfInBounds_toArray, List.set_cons_zero, List.set_cons_succ])
        refine inw_cons (fun wx hg hd => ?_) (fun v28 => ?_)
        · have hx := ((Below.refl wr.heap.size wr).drew).trans hg
          (try (have ee : v23 = (.bool false : Value) := hd 23 (by simp) (by decide); subst ee))
          (try (have ee : v26 = (.slice (some ⟨g, off, none⟩) X sc : Value) := hd 26 (by simp) (by decide); subst ee))
          (try (have ee : v27 = (.int .i64 0 : Value) := hd 27 (by simp) (by decide); subst ee))
          clear hd hg
          go_wp2
          exact ⟨_, rfl, Below.refl _ _, rfl⟩
        (try simp only [List.cons_append, List.nil_append, Act.put, List.setIfInBounds_toArray, List.set_cons_zero, List.set_cons_succ])
        refine inw_cons (fun wx hg hd => ?_) (fun v29 => ?_)
        · have hx := ((Below.refl wr.heap.size wr).drew).trans hg
          (try (have ee : v23 = (.bool false : Value) := hd 23 (by simp) (by decide); subst ee))
          (try (have ee : v28 = (.pointer (some ⟨g, off, none⟩) : Value) := hd 28 (by simp) (by decide); subst ee))
          clear hd hg
          have c1 : wx.cell? ⟨g, off, none⟩ = some (.int .u64 u) := (hx.cell (p := ⟨g, off, none⟩) hg).trans c0
          go_wp2
          exact ⟨_, rfl, Below.refl _ _, rfl⟩
        (try simp only [List.cons_append, List.nil_append, Act.put, List.setIfInBounds_toArray, List.set_cons_zero, List.set_cons_succ])
        refine inw_cons (fun wx hg hd => ?_) (fun v30 => ?_)
        · have hx := ((Below.refl wr.heap.size wr).drew).trans hg
          (try (have ee : v23 = (.bool false : Value) := hd 23 (by simp) (by decide); subst ee))
          have hp25 : (uW 1 [(W : Int)] : SP).1 v25 wx := hd 25 (by simp) (by decide)
          (try (have ee : v29 = (.int .u64 u : Value) := hd 29 (by simp) (by decide); subst ee))
          clear hd hg
          obtain ⟨ao, c, rfl, hw⟩ := hp25
          go_wp2_with fail
          refine (H2.out _ _ _ hw).mono ?_
          rintro e w' ⟨rfl, hb⟩
          go_wp2
          exact ⟨_, rfl, hb, rfl⟩
        (try simp only [List.cons_append, List.nil_append, Act.put, List.setIfInBounds_toArray, List.set_cons_zero, List.set_cons_succ])
        refine inw_cons (fun wx hg hd => ?_) (fun v31 => ?_)
        · have hx := ((Below.refl wr.heap.size wr).drew).trans hg
          (try (have ee : v23 = (.bool false : Value) := hd 23 (by simp) (by decide); subst ee))
          (try (have ee : v30 = (.bool true : Value) := hd 30 (by simp) (by decide); subst ee))
          clear hd hg
          go_wp2
          exact ⟨_, rfl, Below.refl _ _, rfl⟩
        (try simp only [List.cons_append, List.nil_append, Act.put, List.setIfInBounds_toArray, List.set_cons_zero, List.set_cons_succ])
        refine inw_cons (fun wx hg hd => ?_) (fun v32 => ?_)
        · have hx := ((Below.refl wr.heap.size wr).drew).trans hg
          (try (have ee : v23 = (.bool false : Value) := hd 23 (by simp) (by decide); subst ee))
          (try (have ee : v31 = (.bool false : Value) := hd 31 (by simp) (by decide); subst ee))
          clear hd hg
          go_wp2
          exact ⟨_, rfl, Below.refl _ _, rfl⟩
        (try simp only [List.cons_append, List.nil_append, Act.put, List.setIfInBounds_toArray, List.set_cons_zero, List.set_cons_succ])
        refine inw_done (fun wx hg hd => ?_)
        have hx := ((Below.refl wr.heap.size wr).drew).trans hg
        (have ee : v0 = (.slice (some ⟨g, off, none⟩) X sc : Value) := hd 0 (by simp) (by kernel_rfl); subst ee)
        (have ee : v1 = (.int .i64 0 : Value) := hd 1 (by simp) (by kernel_rfl); subst ee)
        (have ee : v2 = (.pointer (some ⟨g, off, none⟩) : Value) := hd 2 (by simp) (by kernel_rfl); subst ee)
        (have ee : v3 = (.int .u64 u : Value) := hd 3 (by simp) (by kernel_rfl); subst ee)
        (have ee : v4 = (.int .u64 W : Value) := hd 4 (by simp) (by kernel_rfl); subst ee)
        (have ee : v5 = (.bool true : Value) := hd 5 (by simp) (by kernel_rfl); subst ee)
        (have ee : v6 = (.bool false : Value) := hd 6 (by simp) (by kernel_rfl); subst ee)
        (have ee : v7 = (.bool false : Value) := hd 7 (by simp) (by kernel_rfl); subst ee)
        (have ee : v8 = (.int .i64 0 : Value) := hd 8 (by simp) (by kernel_rfl); subst ee)
        (have ee : v9 = (.bool false : Value) := hd 9 (by simp) (by kernel_rfl); subst ee)
        (have ee : v10 = (.bool false : Value) := hd 10 (by simp) (by kernel_rfl); subst ee)
        (have ee : v11 = (undef : Value) := hd 11 (by simp) (by kernel_rfl); subst ee)
        (have ee : v12 = (undef : Value) := hd 12 (by simp) (by kernel_rfl); subst ee)
        (have ee : v13 = (undef : Value) := hd 13 (by simp) (by kernel_rfl); subst ee)
        (have ee : v14 = (undef : Value) := hd 14 (by simp) (by kernel_rfl); subst ee)
        (have ee : v15 = (undef : Value) := hd 15 (by simp) (by kernel_rfl); subst ee)
        (have ee : v16 = (undef : Value) := hd 16 (by simp) (by kernel_rfl); subst ee)
        (have ee : v17 = (undef : Value) := hd 17 (by simp) (by kernel_rfl); subst ee)
        (have ee : v18 = (undef : Value) := hd 18 (by simp) (by kernel_rfl); subst ee)
        (have ee : v19 = (undef : Value) := hd 19 (by simp) (by kernel_rfl); subst ee)
        (have ee : v20 = (undef : Value) := hd 20 (by simp) (by kernel_rfl); subst ee)
        (have ee : v21 = (.bool false : Value) := hd 21 (by simp) (by kernel_rfl); subst ee)
        (have ee : v22 = (.bool false : Value) := hd 22 (by simp) (by kernel_rfl); subst ee)
        (have ee : v23 = (.bool false : Value) := hd 23 (by simp) (by kernel_rfl); subst ee)
        (have ee : v24 = (.int .u64 W : Value) := hd 24 (by simp) (by kernel_rfl); subst ee)
        have hp25 : (uW 1 [(W : Int)] : SP).1 v25 wx := hd 25 (by simp) (by kernel_rfl)
        (have ee : v26 = (.slice (some ⟨g, off, none⟩) X sc : Value) := hd 26 (by simp) (by kernel_rfl); subst ee)
        (have ee : v27 = (.int .i64 0 : Value) := hd 27 (by simp) (by kernel_rfl); subst ee)
        (have ee : v28 = (.pointer (some ⟨g, off, none⟩) : Value) := hd 28 (by simp) (by kernel_rfl); subst ee)
        (have ee : v29 = (.int .u64 u : Value) := hd 29 (by simp) (by kernel_rfl); subst ee)
        (have ee : v30 = (.bool true : Value) := hd 30 (by simp) (by kernel_rfl); subst ee)
        (have ee : v31 = (.bool false : Value) := hd 31 (by simp) (by kernel_rfl); subst ee)
        (have ee : v32 = (.bool false : Value) := hd 32 (by simp) (by kernel_rfl); subst ee)
        clear hd hg
        (try go_simp)
        have B7 : Hid (Below w.heap.size w wx) := HI.out.2.trans (hx.mono HI.out.2.size)
        have W7 : Hid (WordsAt wx wx.heap.size (some ⟨g, off, none⟩) L) := (HI.out.1.below hx (Nat.le_refl _)).wider hx.size
        clear hx HI hp25
        go_wp2
        go_roundw
        case rel => exact ⟨1, by omega, by go_num, W7.out, B7.out⟩
        case measure => simp [intOf]; omega
      · obtain ⟨j, hj⟩ : ∃ j : Nat, (k : Int) - 1 = (j : Int) := ⟨k - 1, by omega⟩
        obtain ⟨u2, e2, -, -⟩ := HEL.out j (by omega)
        have c2 := hc j (by rw [HLL.out]; omega)
        rw [e2] at c2
        have hup := HUP.out j (by omega)
        rw [e2, show j + 1 = k by omega, e1] at hup
        have q2 : decide (0 < (k : Int)) = true := decide_eq_true (by omega)
        have q3 : decide (0 < k) = true := decide_eq_true (by omega)
        have q4 : decide ((u : Int) ≤ (u2 : Int)) = false := decide_eq_false (by omega)
        have q5 : decide (u ≤ u2) = false := decide_eq_false (by omega)
        clear h1 h2 e1 e2 hc hup
        go_upto_region 11 with (fail)
        refine wp_region_inw ([.inl (.slice (some ⟨g, off, none⟩) X sc), .inl (.int .i64 k), .inl (.pointer (some ⟨g, off + k, none⟩)), .inl (.int .u64 u), .inl (.int .u64 W), .inl (.bool true), .inl (.bool false), .inl (.bool false), .inl (.int .i64 k), .inl (.bool true), .inl (.bool true), .inl (.slice (some ⟨g, off, none⟩) X sc), .inl (.int .i64 k), .inl (.int .i64 j), .inl (.pointer (some ⟨g, off + j, none⟩)), .inl (.int .u64 u2), .inl (.slice (some ⟨g, off, none⟩) X sc), .inl (.int .i64 k), .inl (.pointer (some ⟨g, off + k, none⟩)), .inl (.int .u64 u), .inl (.bool false), .inl (.bool false), .inl (.bool false), .inl (.bool false), .inl (.int .u64 W), .inr (uW 1 [(W : Int)]), .inl (.slice (some ⟨g, off, none⟩) X sc), .inl (.int .i64 k), .inl (.pointer (some ⟨g, off + k, none⟩)), .inl (.int .u64 u), .inl (.bool true), .inl (.bool false), .inl (.bool false)] : List Want) [] (by kernel_rfl) (by kernel_rfl) (by kernel_rfl) ?_
        refine inw_cons (fun wx hg hd => ?_) (fun v0 => ?_)
        · have hx := ((Below.refl wr.heap.size wr).drew).trans hg
          clear hd hg
          go_wp2
          exact ⟨_, rfl, Below.refl _ _, rfl⟩
        (try simp only [List.nil_append, Act.put, List.setIfInBounds_toArray, List.set_cons_zero, List.set_cons_succ])
        refine inw_cons (fun wx hg hd => ?_) (fun v1 => ?_)
        · have hx := ((Below.refl wr.heap.size wr).drew).trans hg
          clear hd hg
          go_wp2
          exact ⟨_, rfl, Below.refl _ _, rfl⟩
        (try simp only [List.cons_append, List.nil_append, Act.put, List.setIfInBounds_toArray, List.set_cons_zero, List.set_cons_succ])
        refine inw_cons (fun wx hg hd => ?_) (fun v2 => ?_)
        · have hx := ((Below.refl wr.heap.size wr).drew).trans hg
          (try (have ee : v0 = (.slice (some ⟨g, off, none⟩) X sc : Value) := hd 0 (by simp) (by decide); subst ee))
          (try (have ee : v1 = (.int .i64 k : Value) := hd 1 (by simp) (by decide); subst ee))
          clear hd hg
          go_wp2
          exact ⟨_, rfl, Below.refl _ _, rfl⟩
        (try simp only [List.cons_append, List.nil_append, Act.put, List.setIfInBounds_toArray, List.set_cons_zero, List.set_cons_succ])
        refine inw_cons (fun wx hg hd => ?_) (fun v3 => ?_)
        · have hx := ((Below.refl wr.heap.size wr).drew).trans hg
          (try (have ee : v2 = (.pointer (some ⟨g, off + k, none⟩) : Value) := hd 2 (by simp) (by decide); subst ee))
          clear hd hg
          have c1 : wx.cell? ⟨g, off + k, none⟩ = some (.int .u64 u) := (hx.cell (p := ⟨g, off + k, none⟩) hg).trans c0
          go_wp2
          exact ⟨_, rfl, Below.refl _ _, rfl⟩
        (try simp only [List.cons_append, List.nil_append, Act.put, List.setIfInBounds_toArray, List.set_cons_zero, List.set_cons_succ])
        refine inw_cons (fun wx hg hd => ?_) (fun v4 => ?_)
        · have hx := ((Below.refl wr.heap.size wr).drew).trans hg
          clear hd hg
          go_wp2
          exact ⟨_, rfl, Below.refl _ _, rfl⟩
        (try simp only [List.cons_append, List.nil_append, Act.put, List.setIfInBounds_toArray, List.set_cons_zero, List.set_cons_succ])
        refine inw_cons (fun wx hg hd => ?_) (fun v5 => ?_)
        · have hx := ((Below.refl wr.heap.size wr).drew).trans hg
          (try (have ee : v3 = (.int .u64 u : Value) := hd 3 (by simp) (by decide); subst ee))
          (try (have ee : v4 = (.int .u64 W : Value) := hd 4 (by simp) (by decide); subst ee))
          clear hd hg
          go_wp2_with fail
          refine (H1.out _).mono ?_
          rintro e w' ⟨rfl, hb⟩
          go_wp2
          exact ⟨_, rfl, hb, rfl⟩
        (try simp only [List.cons_append, List.nil_append, Act.put, List.setIfInBounds_toArray, List.set_cons_zero, List.set_cons_succ])
        refine inw_cons (fun wx hg hd => ?_) (fun v6 => ?_)
        · have hx := ((Below.refl wr.heap.size wr).drew).trans hg
          (try (have ee : v5 = (.bool true : Value) := hd 5 (by simp) (by decide); subst ee))
          clear hd hg
          go_wp2
          exact ⟨_, rfl, Below.refl _ _, rfl⟩
        (try simp only [List.cons_append, List.nil_append, Act.put, List.setIfInBounds_toArray, List.set_cons_zero, List.set_cons_succ])
        refine inw_cons (fun wx hg hd => ?_) (fun v7 => ?_)
        · have hx := ((Below.refl wr.heap.size wr).drew).trans hg
          (try (have ee : v6 = (.bool false : Value) := hd 6 (by simp) (by decide); subst ee))
          clear hd hg
          go_wp2
          exact ⟨_, rfl, Below.refl _ _, rfl⟩
        (try simp only [List.cons_append, List.nil_append, Act.put, List.setIfInBounds_toArray, List.set_cons_zero, List.set_cons_succ])
        refine inw_cons (fun wx hg hd => ?_) (fun v8 => ?_)
        · have hx := ((Below.refl wr.heap.size wr).drew).trans hg
          (try (have ee : v7 = (.bool false : Value) := hd 7 (by simp) (by decide); subst ee))
          clear hd hg
          go_wp2
          exact ⟨_, rfl, Below.refl _ _, rfl⟩
        (try simp only [List.cons_append, List.nil_append, Act.put, List.setIfInBounds_toArray, List.set_cons_zero, List.set_cons_succ])
        refine inw_cons (fun wx hg hd => ?_) (fun v9 => ?_)
        · have hx := ((Below.refl wr.heap.size wr).drew).trans hg
          (try (have ee : v7 = (.bool false : Value) := hd 7 (by simp) (by decide); subst ee))
          (try (have ee : v8 = (.int .i64 k : Value) := hd 8 (by simp) (by decide); subst ee))
          clear hd hg
          go_wp2
          exact ⟨_, rfl, Below.refl _ _, rfl⟩
        (try simp only [List.cons_append, List.nil_append, Act.put, List.setIfInBounds_toArray, List.set_cons_zero, List.set_cons_succ])
        refine inw_cons (fun wx hg hd => ?_) (fun v10 => ?_)
        · have hx := ((Below.refl wr.heap.size wr).drew).trans hg
          (try (have ee : v7 = (.bool false : Value) := hd 7 (by simp) (by decide); subst ee))
          (try (have ee : v9 = (.bool true : Value) := hd 9 (by simp) (by decide); subst ee))
          clear hd hg
          go_wp2
          exact ⟨_, rfl, Below.refl _ _, rfl⟩
        (try simp only [List.cons_append, List.nil_append, Act.put, List.setIfInBounds_toArray, List.set_cons_zero, List.set_cons_succ])
        refine inw_cons (fun wx hg hd => ?_) (fun v11 => ?_)
        · have hx := ((Below.refl wr.heap.size wr).drew).trans hg
          (try (have ee : v10 = (.bool true : Value) := hd 10 (by simp) (by decide); subst ee))
          clear hd hg
          go_wp2
          exact ⟨_, rfl, Below.refl _ _, rfl⟩
        (try simp only [List.cons_append, List.nil_append, Act.put, List.setIfInBounds_toArray, List.set_cons_zero, List.set_cons_succ])
        refine inw_cons (fun wx hg hd => ?_) (fun v12 => ?_)
        · have hx := ((Below.refl wr.heap.size wr).drew).trans hg
          (try (have ee : v10 = (.bool true : Value) := hd 10 (by simp) (by decide); subst ee))
          clear hd hg
          go_wp2
          exact ⟨_, rfl, Below.refl _ _, rfl⟩
        (try simp only [List.cons_append, List.nil_append, Act.put, List.setIfInBounds_toArray, List.set_cons_zero, List.set_cons_succ])
        refine inw_cons (fun wx hg hd => ?_) (fun v13 => ?_)
        · have hx := ((Below.refl wr.heap.size wr).drew).trans hg
          (try (have ee : v10 = (.bool true : Value) := hd 10 (by simp) (by decide); subst ee))
          (try (have ee : v12 = (.int .i64 k : Value) := hd 12 (by simp) (by decide); subst ee))
          clear hd hg
          go_wp2
          exact ⟨_, rfl, Below.refl _ _, rfl⟩
        (try simp only [List.cons_append, List.nil_append, Act.put, List.setIfInBounds_toArray, List.set_cons_zero, List.set_cons_succ])
        refine inw_cons (fun wx hg hd => ?_) (fun v14 => ?_)
        · have hx := ((Below.refl wr.heap.size wr).drew).trans hg
          (try (have ee : v10 = (.bool true : Value) := hd 10 (by simp) (by decide); subst ee))
          (try (have ee : v11 = (.slice (some ⟨g, off, none⟩) X sc : Value) := hd 11 (by simp) (by decide); subst ee))
          (try (have ee : v13 = (.int .i64 j : Value) := hd 13 (by simp) (by decide); subst ee))
          clear hd hg
          go_wp2
          exact ⟨_, rfl, Below.refl _ _, rfl⟩
        (try simp only [List.cons_append, List.nil_append, Act.put, List.setIfInBounds_toArray, List.set_cons_zero, List.set_cons_succ])
        refine inw_cons (fun wx hg hd => ?_) (fun v15 => ?_)
        · have hx := ((Below.refl wr.heap.size wr).drew).trans hg
          (try (have ee : v10 = (.bool true : Value) := hd 10 (by simp) (by decide); subst ee))
          (try (have ee : v14 = (.pointer (some ⟨g, off + j, none⟩) : Value) := hd 14 (by simp) (by decide); subst ee))
          clear hd hg
          have c1 : wx.cell? ⟨g, off + j, none⟩ = some (.int .u64 u2) := (hx.cell (p := ⟨g, off + j, none⟩) hg).trans c2
          go_wp2
          exact ⟨_, rfl, Below.refl _ _, rfl⟩
        (try simp only [List.cons_append, List.nil_append, Act.put, List.setIfInBounds_toArray, List.set_cons_zero, List.set_cons_succ])
        refine inw_cons (fun wx hg hd => ?_) (fun v16 => ?_)
        · have hx := ((Below.refl wr.heap.size wr).drew).trans hg
          (try (have ee : v10 = (.bool true : Value) := hd 10 (by simp) (by decide); subst ee))
          clear hd hg
          go_wp2
          exact ⟨_, rfl, Below.refl _ _, rfl⟩
        (try simp only [List.cons_append, List.nil_append, Act.put, List.setIfInBounds_toArray, List.set_cons_zero, List.set_cons_succ])
        refine inw_cons (fun wx hg hd => ?_) (fun v17 => ?_)
        · have hx := ((Below.refl wr.heap.size wr).drew).trans hg
          (try (have ee : v10 = (.bool true : Value) := hd 10 (by simp) (by decide); subst ee))
          clear hd hg
          go_wp2
          exact ⟨_, rfl, Below.refl _ _, rfl⟩
        (try simp only [List.cons_append, List.nil_append, Act.put, List.setIfInBounds_toArray, List.set_cons_zero, List.set_cons_succ])
        refine inw_cons (fun wx hg hd => ?_) (fun v18 => ?_)
        · have hx := ((Below.refl wr.heap.size wr).drew).trans hg
          (try (have ee : v10 = (.bool true : Value) := hd 10 (by simp) (by decide); subst ee))
          (try (have ee : v16 = (.slice (some ⟨g, off, none⟩) X sc : Value) := hd 16 (by simp) (by decide); subst ee))
          (try (have ee : v17 = (.int .i64 k : Value) := hd 17 (by simp) (by decide); subst ee))
          clear hd hg
          go_wp2
          exact ⟨_, rfl, Below.refl _ _, rfl⟩
        (try simp only [List.cons_append, List.nil_append, Act.put, List.setIfInBounds_toArray, List.set_cons_zero, List.set_cons_succ])
        refine inw_cons (fun wx hg hd => ?_) (fun v19 => ?_)
        · have hx := ((Below.refl wr.heap.size wr).drew).trans hg
          (try (have ee : v10 = (.bool true : Value) := hd 10 (by simp) (by decide); subst ee))
          (try (have ee : v18 = (.pointer (some ⟨g, off + k, none⟩) : Value) := hd 18 (by simp) (by decide); subst ee))
          clear hd hg
          have c1 : wx.cell? ⟨g, off + k, none⟩ = some (.int .u64 u) := (hx.cell (p := ⟨g, off + k, none⟩) hg).trans c0
          go_wp2
          exact ⟨_, rfl, Below.refl _ _, rfl⟩
        (try simp only [List.cons_append, List.nil_append, Act.put, List.setIfInBounds_toArray, List.set_cons_zero, List.set_cons_succ])
        refine inw_cons (fun wx hg hd => ?_) (fun v20 => ?_)
        · have hx := ((Below.refl wr.heap.size wr).drew).trans hg
          (try (have ee : v10 = (.bool true : Value) := hd 10 (by simp) (by decide); subst ee))
          (try (have ee : v15 = (.int .u64 u2 : Value) := hd 15 (by simp) (by decide); subst ee))
          (try (have ee : v19 = (.int .u64 u : Value) := hd 19 (by simp) (by decide); subst ee))
          clear hd hg
          go_wp2
          exact ⟨_, rfl, Below.refl _ _, rfl⟩
        (try simp only [List.cons_append, List.nil_append, Act.put, List.setIfInBounds_toArray, List.set_cons_zero, List.set_cons_succ])
        refine inw_cons (fun wx hg hd => ?_) (fun v21 => ?_)
        · have hx := ((Below.refl wr.heap.size wr).drew).trans hg
          (try (have ee : v7 = (.bool false : Value) := hd 7 (by simp) (by decide); subst ee))
          (try (have ee : v10 = (.bool true : Value) := hd 10 (by simp) (by decide); subst ee))
          (try (have ee : v20 = (.bool false : Value) := hd 20 (by simp) (by decide); subst ee))
          clear hd hg
          go_wp2
          exact ⟨_, rfl, Below.refl _ _, rfl⟩
        (try simp only [List.cons_append, List.nil_append, Act.put, List.setIfInBounds_toArray, List.set_cons_zero, List.set_cons_succ])
        refine inw_cons (fun wx hg hd => ?_) (fun v22 => ?_)
        · have hx := ((Below.refl wr.heap.size wr).drew).trans hg
          (try (have ee : v7 = (.bool false : Value) := hd 7 (by simp) (by decide); subst ee))
          (try (have ee : v21 = (.bool false : Value) := hd 21 (by simp) (by decide); subst ee))
          clear hd hg
          go_wp2
          exact ⟨_, rfl, Below.refl _ _, rfl⟩
        (try simp only [List.cons_append, List.nil_append, Act.put, List.setIfInBounds_toArray, List.set_cons_zero, List.set_cons_succ])
        refine inw_cons (fun wx hg hd => ?_) (fun v23 => ?_)
        · have hx := ((Below.refl wr.heap.size wr).drew).trans hg
          (try (have ee : v22 = (.bool false : Value) := hd 22 (by simp) (by decide); subst ee))
          clear hd hg
          go_wp2
          exact ⟨_, rfl, Below.refl _ _, rfl⟩
        (try simp only [List.cons_append, List.nil_append, Act.put, List.setIfInBounds_toArray, List.set_cons_zero, List.set_cons_succ])
        refine inw_cons (fun wx hg hd => ?_) (fun v24 => ?_)
        · have hx := ((Below.refl wr.heap.size wr).drew).trans hg
          (try (have ee : v23 = (.bool false : Value) := hd 23 (by simp) (by decide); subst ee))
          clear hd hg
          go_wp2
          exact ⟨_, rfl, Below.refl _ _, rfl⟩
        (try simp only [List.cons_append, List.nil_append, Act.put, List.setIfInBounds_toArray, List.set_cons_zero, List.set_cons_succ])
        refine inw_cons (fun wx hg hd => ?_) (fun v25 => ?_)
        · have hx := ((Below.refl wr.heap.size wr).drew).trans hg
          (try (have ee : v23 = (.bool false : Value) := hd 23 (by simp) (by decide); subst ee))
          (try (have ee : v24 = (.int .u64 W : Value) := hd 24 (by simp) (by decide); subst ee))
          clear hd hg
          go_wp2
          exact ⟨_, rfl, (Below.refl _ _).alloc (Nat.le_refl _) _, _, _, rfl, (words_new wx [(W : Int)] 25).wider (by simp)⟩
        (try simp only [List.cons_append, List.nil_append, Act.put, List.setIfInBounds_toArray, List.set_cons_zero, List.set_cons_succ])
        refine inw_cons (fun wx hg hd => ?_) (fun v26 => ?_)
        · have hx := ((Below.refl wr.heap.size wr).drew).trans hg
          (try (have ee : v23 = (.bool false : Value) := hd 23 (by simp) (by decide); subst ee))
          clear hd hg
          go_wp2
          exact ⟨_, rfl, Below.refl _ _, rfl⟩
        (try simp only [List.cons_append, List.nil_append, Act.put, List.setIfInBounds_toArray, List.set_cons_zero, List.set_cons_succ])
        refine inw_cons (fun wx hg hd => ?_) (fun v27 => ?_)
        · have hx := ((Below.refl wr.heap.size wr).drew).trans hg
          (try (have ee : v23 = (.bool false : Value) := hd 23 (by simp) (by decide); subst ee))
          clear hd hg
          go_wp2
          exact ⟨_, rfl, Below.refl _ _, rfl⟩
        (try simp only [List.cons_append, List.nil_append, Act.put, List.setIfInBounds_toArray, List.set_cons_zero, List.set_cons_succ])
        refine inw_cons (fun wx hg hd => ?_) (fun v28 => ?_)
        · have hx := ((Below.refl wr.heap.size wr).drew).trans hg
          (try (have ee : v23 = (.bool false : Value) := hd 23 (by simp) (by decide); subst ee))
          (try (have ee : v26 = (.slice (some ⟨g, off, none⟩) X sc : Value) := hd 26 (by simp) (by decide); subst ee))
          (try (have ee : v27 = (.int .i64 k : Value) := hd 27 (by simp) (by decide); subst ee))
          clear hd hg
          go_wp2
          exact ⟨_, rfl, Below.refl _ _, rfl⟩
        (try simp only [List.cons_append, List.nil_append, Act.put, List.setIfInBounds_toArray, List.set_cons_zero, List.set_cons_succ])
        refine inw_cons (fun wx hg hd => ?_) (fun v29 => ?_)
        · have hx := ((Below.refl wr.heap.size wr).drew).trans hg
          (try (have ee : v23 = (.bool false : Value) := hd 23 (by simp) (by decide); subst ee))
          (try (have ee : v28 = (.pointer (some ⟨g, off + k, none⟩) : Value) := hd 28 (by simp) (by decide); subst ee))
          clear hd hg
          have c1 : wx.cell? ⟨g, off + k, none⟩ = some (.int .u64 u) := (hx.cell (p := ⟨g, off + k, none⟩) hg).trans c0
          go_wp2
          exact ⟨_, rfl, Below.refl _ _, rfl⟩
        (try simp only [List.cons_append, List.nil_append, Act.put, List.setIfInBounds_toArray, List.set_cons_zero, List.set_cons_succ])
        refine inw_cons (fun wx hg hd => ?_) (fun v30 => ?_)
        · have hx := ((Below.refl wr.heap.size wr).drew).trans hg
          (try (have ee : v23 = (.bool false : Value) := hd 23 (by simp) (by decide); subst ee))
          have hp25 : (uW 1 [(W : Int)] : SP).1 v25 wx := hd 25 (by simp) (by decide)
          (try (have ee : v29 = (.int .u64 u : Value) := hd 29 (by simp) (by decide); subst ee))
          clear hd hg
          obtain ⟨ao, c, rfl, hw⟩ := hp25
          go_wp2_with fail
          refine (H2.out _ _ _ hw).mono ?_
          rintro e w' ⟨rfl, hb⟩
          go_wp2
          exact ⟨_, rfl, hb, rfl⟩
        (try simp only [List.cons_append, List.nil_append, Act.put, List.setIfInBounds_toArray, List.set_cons_zero, List.set_cons_succ])
        refine inw_cons (fun wx hg hd => ?_) (fun v31 => ?_)
        · have hx := ((Below.refl wr.heap.size wr).drew).trans hg
          (try (have ee : v23 = (.bool false : Value) := hd 23 (by simp) (by decide); subst ee))
          (try (have ee : v30 = (.bool true : Value) := hd 30 (by simp) (by decide); subst ee))
          clear hd hg
          go_wp2
          exact ⟨_, rfl, Below.refl _ _, rfl⟩
        (try simp only [List.cons_append, List.nil_append, Act.put, List.setIfInBounds_toArray, List.set_cons_zero, List.set_cons_succ])
        refine inw_cons (fun wx hg hd => ?_) (fun v32 => ?_)
        · have hx := ((Below.refl wr.heap.size wr).drew).trans hg
          (try (have ee : v23 = (.bool false : Value) := hd 23 (by simp) (by decide); subst ee))
          (try (have ee : v31 = (.bool false : Value) := hd 31 (by simp) (by decide); subst ee))
          clear hd hg
          go_wp2
          exact ⟨_, rfl, Below.refl _ _, rfl⟩
        (try simp only [List.cons_append, List.nil_append, Act.put, List.setIfInBounds_toArray, List.set_cons_zero, List.set_cons_succ])
        refine inw_done (fun wx hg hd => ?_)
        have hx := ((Below.refl wr.heap.size wr).drew).trans hg
        (have ee : v0 = (.slice (some ⟨g, off, none⟩) X sc : Value) := hd 0 (by simp) (by kernel_rfl); subst ee)
        (have ee : v1 = (.int .i64 k : Value) := hd 1 (by simp) (by kernel_rfl); subst ee)
        (have ee : v2 = (.pointer (some ⟨g, off + k, none⟩) : Value) := hd 2 (by simp) (by kernel_rfl); subst ee)
        (have ee : v3 = (.int .u64 u : Value) := hd 3 (by simp) (by kernel_rfl); subst ee)
        (have ee : v4 = (.int .u64 W : Value) := hd 4 (by simp) (by kernel_rfl); subst ee)
        (have ee : v5 = (.bool true : Value) := hd 5 (by simp) (by kernel_rfl); subst ee)
        (have ee : v6 = (.bool false : Value) := hd 6 (by simp) (by kernel_rfl); subst ee)
        (have ee : v7 = (.bool false : Value) := hd 7 (by simp) (by kernel_rfl); subst ee)
        (have ee : v8 = (.int .i64 k : Value) := hd 8 (by simp) (by kernel_rfl); subst ee)
        (have ee : v9 = (.bool true : Value) := hd 9 (by simp) (by kernel_rfl); subst ee)
        (have ee : v10 = (.bool true : Value) := hd 10 (by simp) (by kernel_rfl); subst ee)
        (have ee : v11 = (.slice (some ⟨g, off, none⟩) X sc : Value) := hd 11 (by simp) (by kernel_rfl); subst ee)
        (have ee : v12 = (.int .i64 k : Value) := hd 12 (by simp) (by kernel_rfl); subst ee)
        (have ee : v13 = (.int .i64 j : Value) := hd 13 (by simp) (by kernel_rfl); subst ee)
        (have ee : v14 = (.pointer (some ⟨g, off + j, none⟩) : Value) := hd 14 (by simp) (by kernel_rfl); subst ee)
        (have ee : v15 = (.int .u64 u2 : Value) := hd 15 (by simp) (by kernel_rfl); subst ee)
        (have ee : v16 = (.slice (some ⟨g, off, none⟩) X sc : Value) := hd 16 (by simp) (by kernel_rfl); subst ee)
        (have ee : v17 = (.int .i64 k : Value) := hd 17 (by simp) (by kernel_rfl); subst ee)
        (have ee : v18 = (.pointer (some ⟨g, off + k, none⟩) : Value) := hd 18 (by simp) (by kernel_rfl); subst ee)
        (have ee : v19 = (.int .u64 u : Value) := hd 19 (by simp) (by kernel_rfl); subst ee)
        (have ee : v20 = (.bool false : Value) := hd 20 (by simp) (by kernel_rfl); subst ee)
        (have ee : v21 = (.bool false : Value) := hd 21 (by simp) (by kernel_rfl); subst ee)
        (have ee : v22 = (.bool false : Value) := hd 22 (by simp) (by kernel_rfl); subst ee)
        (have ee : v23 = (.bool false : Value) := hd 23 (by simp) (by kernel_rfl); subst ee)
        (have ee : v24 = (.int .u64 W : Value) := hd 24 (by simp) (by kernel_rfl); subst ee)
        have hp25 : (uW 1 [(W : Int)] : SP).1 v25 wx := hd 25 (by simp) (by kernel_rfl)
        (have ee : v26 = (.slice (some ⟨g, off, none⟩) X sc : Value) := hd 26 (by simp) (by kernel_rfl); subst ee)
        (have ee : v27 = (.int .i64 k : Value) := hd 27 (by simp) (by kernel_rfl); subst ee)
        (have ee : v28 = (.pointer (some ⟨g, off + k, none⟩) : Value) := hd 28 (by simp) (by kernel_rfl); subst ee)
        (have ee : v29 = (.int .u64 u : Value) := hd 29 (by simp) (by kernel_rfl); subst ee)
        (have ee : v30 = (.bool true : Value) := hd 30 (by simp) (by kernel_rfl); subst ee)
        (have ee : v31 = (.bool false : Value) := hd 31 (by simp) (by kernel_rfl); subst ee)
        (have ee : v32 = (.bool false : Value) := hd 32 (by simp) (by kernel_rfl); subst ee)
        clear hd hg
        (try go_simp)
        have B7 : Hid (Below w.heap.size w wx) := HI.out.2.trans (hx.mono HI.out.2.size)
        have W7 : Hid (WordsAt wx wx.heap.size (some ⟨g, off, none⟩) L) := (HI.out.1.below hx (Nat.le_refl _)).wider hx.size
        clear hx HI hp25
        go_wp2
        go_roundw
        case rel => exact ⟨k + 1, by omega, by go_num, W7.out, B7.out⟩
        case measure => simp [intOf]; omega
    · obtain rfl : k = X := by omega
      have HCC := Lib.hid (HC.out so sc wr HI.out.1)
      have B8 := Lib.hid HI.out.2
      have q1 : decide ((k : Int) < (k : Int)) = false := decide_eq_false (by omega)
      clear HI HC HEL HUP B6 W6
      go_wp2_with fail
      refine HCC.out.mono ?_
      rintro e w8 ⟨po, pc, rfl, hp8, hb8⟩
      have B9 := Lib.hid (B8.out.trans (hb8.mono B8.out.size))
      have W9 := Lib.hid (words_own (l := [(W : Int)]) rfl hp8)
      have HSM := Lib.hid (HSAME.out po pc w8 W9.out)
      clear hb8 hp8 B8 HCC
      go_wp2_with fail
      refine HSM.out.mono ?_
      rintro e w9 ⟨rfl, hb9⟩
      have B10 := Lib.hid (B9.out.trans (hb9.mono B9.out.size))
      clear hb9 B9 HSM
      go_wp2_with fail
      refine (HAW.out _).mono ?_
      rintro e w10 ⟨rfl, hb10⟩
      have hb := B10.out.trans (hb10.mono B10.out.size)
      clear hb10 B10
      go_wp2
      go_ret
      exact ⟨rfl, hb⟩
end Go.Proofs.YtkjfdaleamonaaaGreat.packSpreads
