/- Joined: PkE, PlF, NwG, PlG, NwF: contracts and plain laws, each with its own heading below. -/
import Derived.Test.YtkjfdaleamonaaaGreatPackAJ
import Derived.Test.YtkjfdaleamonaaaGreatPackAI
import Derived.OwnWalk
import Derived.Test.YtkjfdaleamonaaaGreatPackAH
/- The contract of apiarylaw8.Words: some words of one size. -/
namespace Go.Proofs.YtkjfdaleamonaaaGreat
open Go.RowKit Go.Lib Wd

theorem par_word {q : Nat} {y : E2} (hy : okB q y = true) : (q = 0 ∧ parE (wordN q y) = 3) ∨ (∃ q', q = q' + 1 ∧ parE (wordN q y) = 0 ∧ parW (wordN q y) = wordN q' (upE y) ∧ okB q' (upE y) = true) := by
  obtain ⟨a, b, c⟩ := word_cell hy
  cases q with
  | zero => exact .inl ⟨rfl, by unfold parE; rw [if_pos a, if_pos b]⟩
  | succ q' =>
    have ho := up_ok hy
    refine .inr ⟨q', rfl, by unfold parE; rw [if_pos a, if_neg (by rw [b]; omega)], ?_, ho⟩
    unfold parW
    rw [if_pos ⟨a, by rw [b]; omega⟩, b, c, show ((q' + 1 : Nat) : Int) - 1 = (q' : Int) by omega, (ofW_ok ho).1]
set_option maxRecDepth 100000 in
set_option maxHeartbeats 16000000 in
theorem words8_any (a0 : Option Addr) (n0 c0 : Nat) (z0 : Nat → Int) (r : Int) (w : World) (B : Nat) (h : IntsAtK .i64 w B a0 n0 z0) (hB : B ≤ w.heap.size) (hn : n0 ≤ 1000000000000) :
    Calls Tryz.prog 30 #[.slice a0 n0 c0, .int .i64 r] w fun e w' => ∃ (L : List Int) (m : Nat) (ao : Option Addr) (c : Nat), e = .returned (.slice ao m c) ∧ L.length = m ∧ m ≤ 400 ∧ Sized (r % 13).toNat L ∧ w'.ownsRow w.heap.size 25 1 (.slice ao m c) m (uV L) ∧ Below w.heap.size w w' := by
  obtain ⟨i0, hi, hz0, hz1, hz2⟩ := info_parts info_u
  obtain ⟨hr2, hr1⟩ := rem13 r
  obtain ⟨R, hR, hR12⟩ : ∃ R : Nat, r % 13 = R ∧ R ≤ 12 := ⟨(r % 13).toNat, by omega, by omega⟩
  rw [hR] at hr1 ⊢
  rw [Int.toNat_natCast]
  obtain ⟨s, hs⟩ : ∃ s, r.tmod 13 = s := ⟨_, rfl⟩
  rw [hs] at hr1 hr2
  obtain ⟨hr3, hr4⟩ := hr2
  have HX := Lib.hid h
  have HLW : Hid (∀ x y w, Calls Tryz.prog 14 #[.int .i64 x, .int .i64 y, .int .i64 R] w fun e w' => e = .returned (.int .u64 (wordN R (someE x y R) : Nat)) ∧ Below w.heap.size w w') := fun x y w => by
    have h := lword_w x y (R : Int) w
    rwa [show ((R : Int) % 13).toNat = R by omega] at h
  clear h hR
  go_enter Tryz.func30, Tryz.ntmps30
  go_wp2
  go_loopw [5, 6] (fun lv i wr => ∃ (L : List Int) (m I : Nat) (lo : Option Addr) (lc : Nat), I ≤ 13 ∧ m ≤ 25 * I ∧ i = .int .i64 I ∧ lv = .slice lo m lc ∧ Hid (L.length = m ∧ Sized R L ∧ wr.ownsRow w.heap.size 25 1 (.slice lo m lc) m (uV L)) ∧ Hid (Below w.heap.size w wr)) (fun _ i _ => 14 - (intOf i).toNat)
  case atStart => exact ⟨[], 0, 0, none, 0, by omega, by omega, rfl, rfl, ⟨rfl, fun v hv => by simp at hv, World.ownsRow_nil _ _ _ _⟩, Below.refl _ _⟩
  case round =>
    obtain ⟨L, m, I, lo, lc, hI, hm, rfl, rfl, HL, HI⟩ := hrel
    obtain ⟨wo, rfl⟩ : ∃ wo, wo = wr := ⟨_, rfl⟩
    have hsz := HI.out.size
    have hwi : IntKind.i64.wrap ((I : Int) + 1) = (I : Int) + 1 := IntWalk.i64_in _ (by omega)
    by_cases h1 : I + 1 < n0
    · have q3 : decide ((I : Int) + 1 < (n0 : Int)) = true := decide_eq_true (by omega)
      by_cases h2 : I < 12
      · have q4 : decide ((I : Int) < 12) = true := decide_eq_true (by omega)
        have q4n : decide (I < 12) = true := decide_eq_true h2
        obtain ⟨b, off, rfl, hb, hc⟩ := HX.out (by omega)
        have x0 := hc I (by omega)
        have y0 := hc (I + 1) (by omega)
        have HL1 := Lib.hid (HLW.out (z0 I) (z0 (I + 1)))
        have hok := some_ok (z0 I) (z0 (I + 1)) hR12
        generalize z0 I = x at *
        generalize z0 (I + 1) = y at *
        generalize someE x y R = z at *
        have HOK := Lib.hid hok
        have hbw : b < w.heap.size := by omega
        have HCX : Hid (∀ wx, Below w.heap.size w wx → wx.cell? ⟨b, off + I, none⟩ = some (.int .i64 x) ∧ wx.cell? ⟨b, off + (I + 1), none⟩ = some (.int .i64 y) ∧ b < wx.heap.size) := fun wx hx => ⟨(hx.cell (p := ⟨b, _, none⟩) hbw).trans x0, (hx.cell (p := ⟨b, _, none⟩) hbw).trans y0, Nat.lt_of_lt_of_le hbw hx.size⟩
        have hbo : b < wo.heap.size := Nat.lt_of_lt_of_le hbw hsz
        obtain ⟨U, eU, hU⟩ : ∃ e : Nat, bits BinOp.and IntKind.i64 (x / 1048576) 1 = (e : Int) ∧ e ≤ 1 := ⟨(x / 1048576 % 2).toNat, by rw [i64_and_mask (x / 1048576) 1 (by omega) 1 rfl]; omega, by omega⟩
        obtain ⟨A3, eA⟩ : ∃ A, bits BinOp.and IntKind.i64 (y / 1073741824) 3 = A := ⟨_, rfl⟩
        obtain ⟨A6, eB⟩ : ∃ A, bits BinOp.and IntKind.i64 (x / 4194304) 63 = A := ⟨_, rfl⟩
        obtain ⟨A1, eC⟩ : ∃ A, bits BinOp.and IntKind.i64 (x / 2097152) 1 = A := ⟨_, rfl⟩
        clear hc hok
        go_upto_region 6 with (fail)
        clear x0 y0
        refine wp_region_inv (fun w w' => Below w.heap.size w w') (fun qi_ qv_ _ => qv_ = ([.slice (some ⟨b, off, none⟩) n0 c0, .int .i64 I, .pointer (some ⟨b, off + I, none⟩), .int .i64 x, .slice (some ⟨b, off, none⟩) n0 c0, .int .i64 I, .int .i64 ((I : Int) + 1), .pointer (some ⟨b, off + (I + 1), none⟩), .int .i64 y, .int .i64 R, .int .u64 (wordN R z : Nat), .int .u64 (wordN R z : Nat)] : List Value).getD qi_ undef) (by kernel_rfl) (by kernel_rfl) (fun _ => Below.refl _ _) (fun _ _ _ h1 h2 => below_later h1 h1.size h2) (fun _ _ _ _ _ _ h => h) ?_
        refine inv_cons (fun wx hg hd => ?_) (fun v0 => ?_)
        · have hx := ((Below.refl wo.heap.size wo).drew).trans hg
          clear hd hg
          go_wp2
          exact ⟨_, rfl, Below.refl _ _, rfl⟩
        (try simp only [List.nil_append, Act.put, List.setIfInBounds_toArray, List.set_cons_zero, List.set_cons_succ])
        refine inv_cons (fun wx hg hd => ?_) (fun v1 => ?_)
        · have hx := ((Below.refl wo.heap.size wo).drew).trans hg
          clear hd hg
          go_wp2
          exact ⟨_, rfl, Below.refl _ _, rfl⟩
        (try simp only [List.cons_append, List.nil_append, Act.put, List.setIfInBounds_toArray, List.set_cons_zero, List.set_cons_succ])
        refine inv_cons (fun wx hg hd => ?_) (fun v2 => ?_)
        · have hx := ((Below.refl wo.heap.size wo).drew).trans hg
          (try (have ee : v0 = (.slice (some ⟨b, off, none⟩) n0 c0 : Value) := hd 0 (by simp) (by decide); subst ee))
          (try (have ee : v1 = (.int .i64 I : Value) := hd 1 (by simp) (by decide); subst ee))
          clear hd hg
          go_wp2
          exact ⟨_, rfl, Below.refl _ _, rfl⟩
        (try simp only [List.cons_append, List.nil_append, Act.put, List.setIfInBounds_toArray, List.set_cons_zero, List.set_cons_succ])
        refine inv_cons (fun wx hg hd => ?_) (fun v3 => ?_)
        · have hx := ((Below.refl wo.heap.size wo).drew).trans hg
          (try (have ee : v2 = (.pointer (some ⟨b, off + I, none⟩) : Value) := hd 2 (by simp) (by decide); subst ee))
          clear hd hg
          obtain ⟨x0, y0, x1⟩ := HCX.out _ (HI.out.trans (hx.mono hsz))
          go_wp2
          exact ⟨_, rfl, Below.refl _ _, rfl⟩
        (try simp only [List.cons_append, List.nil_append, Act.put, List.setIfInBounds_toArray, List.set_cons_zero, List.set_cons_succ])
        refine inv_cons (fun wx hg hd => ?_) (fun v4 => ?_)
        · have hx := ((Below.refl wo.heap.size wo).drew).trans hg
          clear hd hg
          go_wp2
          exact ⟨_, rfl, Below.refl _ _, rfl⟩
        (try simp only [List.cons_append, List.nil_append, Act.put, List.setIfInBounds_toArray, List.set_cons_zero, List.set_cons_succ])
        refine inv_cons (fun wx hg hd => ?_) (fun v5 => ?_)
        · have hx := ((Below.refl wo.heap.size wo).drew).trans hg
          clear hd hg
          go_wp2
          exact ⟨_, rfl, Below.refl _ _, rfl⟩
        (try simp only [List.cons_append, List.nil_append, Act.put, List.setIfInBounds_toArray, List.set_cons_zero, List.set_cons_succ])
        refine inv_cons (fun wx hg hd => ?_) (fun v6 => ?_)
        · have hx := ((Below.refl wo.heap.size wo).drew).trans hg
          (try (have ee : v5 = (.int .i64 I : Value) := hd 5 (by simp) (by decide); subst ee))
          clear hd hg
          go_wp2
          exact ⟨_, rfl, Below.refl _ _, rfl⟩
        (try simp only [List.cons_append, List.nil_append, Act.put, List.setIfInBounds_toArray, List.set_cons_zero, List.set_cons_succ])
        refine inv_cons (fun wx hg hd => ?_) (fun v7 => ?_)
        · have hx := ((Below.refl wo.heap.size wo).drew).trans hg
          (try (have ee : v4 = (.slice (some ⟨b, off, none⟩) n0 c0 : Value) := hd 4 (by simp) (by decide); subst ee))
          (try (have ee : v6 = (.int .i64 ((I : Int) + 1) : Value) := hd 6 (by simp) (by decide); subst ee))
          clear hd hg
          go_wp2
          exact ⟨_, rfl, Below.refl _ _, rfl⟩
        (try simp only [List.cons_append, List.nil_append, Act.put, List.setIfInBounds_toArray, List.set_cons_zero, List.set_cons_succ])
        refine inv_cons (fun wx hg hd => ?_) (fun v8 => ?_)
        · have hx := ((Below.refl wo.heap.size wo).drew).trans hg
          (try (have ee : v7 = (.pointer (some ⟨b, off + (I + 1), none⟩) : Value) := hd 7 (by simp) (by decide); subst ee))
          clear hd hg
          obtain ⟨x0, y0, x1⟩ := HCX.out _ (HI.out.trans (hx.mono hsz))
          go_wp2
          exact ⟨_, rfl, Below.refl _ _, rfl⟩
        (try simp only [List.cons_append, List.nil_append, Act.put, List.setIfInBounds_toArray, List.set_cons_zero, List.set_cons_succ])
        refine inv_cons (fun wx hg hd => ?_) (fun v9 => ?_)
        · have hx := ((Below.refl wo.heap.size wo).drew).trans hg
          clear hd hg
          go_wp2
          exact ⟨_, rfl, Below.refl _ _, rfl⟩
        (try simp only [List.cons_append, List.nil_append, Act.put, List.setIfInBounds_toArray, List.set_cons_zero, List.set_cons_succ])
        refine inv_cons (fun wx hg hd => ?_) (fun v10 => ?_)
        · have hx := ((Below.refl wo.heap.size wo).drew).trans hg
          (try (have ee : v3 = (.int .i64 x : Value) := hd 3 (by simp) (by decide); subst ee))
          (try (have ee : v8 = (.int .i64 y : Value) := hd 8 (by simp) (by decide); subst ee))
          (try (have ee : v9 = (.int .i64 R : Value) := hd 9 (by simp) (by decide); subst ee))
          clear hd hg
          go_wp2_with fail
          refine (HL1.out _).mono ?_
          rintro e w' ⟨rfl, hb⟩
          go_wp2
          exact ⟨_, rfl, hb, rfl⟩
        (try simp only [List.cons_append, List.nil_append, Act.put, List.setIfInBounds_toArray, List.set_cons_zero, List.set_cons_succ])
        refine inv_cons (fun wx hg hd => ?_) (fun v11 => ?_)
        · have hx := ((Below.refl wo.heap.size wo).drew).trans hg
          (try (have ee : v10 = (.int .u64 (wordN R z : Nat) : Value) := hd 10 (by simp) (by decide); subst ee))
          clear hd hg
          go_wp2
          exact ⟨_, rfl, Below.refl _ _, rfl⟩
        (try simp only [List.cons_append, List.nil_append, Act.put, List.setIfInBounds_toArray, List.set_cons_zero, List.set_cons_succ])
        refine inv_done (fun wx hg hd => ?_)
        have hx := ((Below.refl wo.heap.size wo).drew).trans hg
        (have ee : v0 = (.slice (some ⟨b, off, none⟩) n0 c0 : Value) := hd 0 (by simp); subst ee)
        (have ee : v1 = (.int .i64 I : Value) := hd 1 (by simp); subst ee)
        (have ee : v2 = (.pointer (some ⟨b, off + I, none⟩) : Value) := hd 2 (by simp); subst ee)
        (have ee : v3 = (.int .i64 x : Value) := hd 3 (by simp); subst ee)
        (have ee : v4 = (.slice (some ⟨b, off, none⟩) n0 c0 : Value) := hd 4 (by simp); subst ee)
        (have ee : v5 = (.int .i64 I : Value) := hd 5 (by simp); subst ee)
        (have ee : v6 = (.int .i64 ((I : Int) + 1) : Value) := hd 6 (by simp); subst ee)
        (have ee : v7 = (.pointer (some ⟨b, off + (I + 1), none⟩) : Value) := hd 7 (by simp); subst ee)
        (have ee : v8 = (.int .i64 y : Value) := hd 8 (by simp); subst ee)
        (have ee : v9 = (.int .i64 R : Value) := hd 9 (by simp); subst ee)
        (have ee : v10 = (.int .u64 (wordN R z : Nat) : Value) := hd 10 (by simp); subst ee)
        (have ee : v11 = (.int .u64 (wordN R z : Nat) : Value) := hd 11 (by simp); subst ee)
        clear hd hg
        (try go_simp)
        have HLx := Lib.hid (own_later HL.out.2.2 hx)
        have HIx := Lib.hid (HI.out.trans (hx.mono hsz))
        have hLl := HL.out.1
        have HLS := Lib.hid HL.out.2.1
        obtain ⟨x0, y0, x1⟩ := HCX.out _ HIx.out
        have hwu : IntKind.i64.wrap ((U : Int) + 1) = (U : Int) + 1 := IntWalk.i64_in _ (by omega)
        clear hx HI HL hbo hbw hb
        go_wp2
        clear x0 y0 x1
        go_loopw [9, 10] (fun tv jv wz => ∃ (q : Nat) (t : E2) (j : Nat), jv = .int .i64 j ∧ j ≤ U + 1 ∧ q ≤ R ∧ R ≤ q + j ∧ tv = .int .u64 (wordN q t : Nat) ∧ Hid (okB q t = true) ∧ Hid (Below wx.heap.size wx wz)) (fun _ j _ => 3 - (intOf j).toNat)
        case atStart => exact ⟨R, z, 0, rfl, by omega, Nat.le_refl _, by omega, rfl, HOK.out, Below.refl _ _⟩
        case round =>
          obtain ⟨q, t, j, rfl, hj, hq1, hq2, rfl, HT, HJ⟩ := hrel
          by_cases hlt : j < U + 1
          · have q5 : decide ((j : Int) < (U : Int) + 1) = true := decide_eq_true (by omega)
            have HWU := Lib.hid (wup_any (wordN q t) (by have := (wordN_lt HT.out).1; omega))
            have hsj := HJ.out.size
            rcases par_word HT.out with ⟨rfl, e1⟩ | ⟨q', rfl, e1, e2, e3⟩
            · rw [e1] at HWU
              clear e1
              generalize hV : wordN 0 t = V at *
              have HVE := Lib.hid hV
              clear hV
              generalize parW V = V2 at *
              go_wp2_with fail
              refine (HWU.out _).mono ?_
              rintro e w2 ⟨rfl, hb2⟩
              have HJ2 := Lib.hid (HJ.out.trans (hb2.mono hsj))
              clear hb2 HJ
              go_wp2
              go_roundw
              case rel => exact ⟨0, t, j + 1, by go_num, by omega, by omega, by omega, by rw [HVE.out], HT.out, HJ2.out⟩
              case measure => simp [intOf]; omega
            · rw [e1, e2] at HWU
              have HT3 := Lib.hid e3
              clear e1 e2 e3
              generalize wordN (q' + 1) t = V at *
              go_wp2_with fail
              refine (HWU.out _).mono ?_
              rintro e w2 ⟨rfl, hb2⟩
              have HJ2 := Lib.hid (HJ.out.trans (hb2.mono hsj))
              clear hb2 HJ
              go_wp2
              go_roundw
              case rel => exact ⟨q', upE t, j + 1, by go_num, by omega, by omega, by omega, rfl, HT3.out, HJ2.out⟩
              case measure => simp [intOf]; omega
          · have q5 : decide ((j : Int) < (U : Int) + 1) = false := decide_eq_false (by omega)
            obtain ⟨wv, rfl⟩ : ∃ wv, wv = wr := ⟨_, rfl⟩
            have hsj := HJ.out.size
            have HIv := Lib.hid (HIx.out.trans (HJ.out.mono HIx.out.size))
            have HLv := Lib.hid (own_later HLx.out HJ.out)
            have hRq : R - q ≤ 2 := by omega
            obtain ⟨e1, e2⟩ := one_spread HT.out hR12 hq1 (by omega)
            have hK : (dsN (R - q) q t).length ≤ 49 := by rw [ds_len]; exact Nat.le_trans (Nat.pow_le_pow_right (by decide) hRq) (by decide)
            have hKS := ds_sized (d := R - q) (k := q) (by omega) HT.out
            rw [show q + (R - q) = R by omega] at hKS
            have hsp := rspread_any (some ⟨wv.heap.size, 0, none⟩) 1 [(wordN q t : Int)] R _ (wv.heap.size + 1) (words_new wv [(wordN q t : Int)] 25) (by simp) (by simp) (in64_cons (by have := (wordN_lt HT.out).1; omega) in64_nil)
            rw [e1, e2] at hsp
            obtain ⟨K, hKe⟩ : ∃ K, dsN (R - q) q t = K := ⟨_, rfl⟩
            rw [hKe] at hsp hK hKS
            obtain ⟨KL, hKL⟩ : ∃ KL, K.length = KL := ⟨_, rfl⟩
            have HSP : Hid (Calls Tryz.prog 37 #[.slice (some ⟨wv.heap.size, 0, none⟩) 1 1, .int .i64 R] (wv.alloc (.cells #[.int .u64 (wordN q t : Nat)] 25)) fun e w' => ∃ ao c, e = .returned (.tuple #[.slice ao KL c, .int .i64 0]) ∧ w'.ownsRow wv.heap.size 25 1 (.slice ao KL c) KL (uV K) ∧ Below wv.heap.size wv w') := by
              refine hsp.mono ?_
              rintro e w' ⟨ao, c, rfl, ho, hb⟩
              rw [hKL] at ho ⊢
              exact ⟨ao, c, rfl, own_base ho (by simp), below_alloc hb⟩
            have HKS := Lib.hid hKS
            have HKL := Lib.hid hKL
            rw [hKL] at hK
            generalize wordN q t = V at *
            clear hsp hKe e1 e2 hKS hKL HT HJ HLx HIx
            go_wp2_with fail
            refine HSP.out.mono ?_
            rintro e w5 ⟨so, sc, rfl, hs5, hb5⟩
            have HI5 := Lib.hid (HIv.out.trans (hb5.mono HIv.out.size))
            have HL5 := Lib.hid (own_later HLv.out hb5)
            have HS5 := Lib.hid hs5
            have HAP5 : Hid (Apart (.slice lo m lc) (.slice so KL sc)) := fun k hk1 hk2 => by
              have h1 := HLv.out.lt_size k hk1
              have h2 := (hs5.lt k hk2).1
              omega
            have hvs : w.heap.size ≤ wv.heap.size := HIv.out.size
            clear hs5 hb5 HIv HLv HSP hsj
            go_wp2
            go_loopw [5, 15] (fun lv kv wz => ∃ (L2 : List Int) (m2 k : Nat) (lo2 : Option Addr) (lc2 : Nat), k ≤ KL ∧ m2 ≤ m + k ∧ kv = .int .i64 k ∧ lv = .slice lo2 m2 lc2 ∧ Hid (L2.length = m2 ∧ Sized R L2 ∧ wz.ownsRow w.heap.size 25 1 (.slice lo2 m2 lc2) m2 (uV L2)) ∧ Hid (wz.ownsRow wv.heap.size 25 1 (.slice so KL sc) KL (uV K)) ∧ Hid (Apart (.slice lo2 m2 lc2) (.slice so KL sc)) ∧ Hid (Below w.heap.size w wz)) (fun _ k _ => KL - (intOf k).toNat)
            case atStart => exact ⟨L, m, 0, lo, lc, by omega, by omega, rfl, rfl, ⟨hLl, HLS.out, HL5.out⟩, HS5.out, HAP5.out, HI5.out⟩
            case round =>
              obtain ⟨L2, m2, k, lo2, lc2, hk, hm2, rfl, rfl, HL2, HS2, HAP, HB2⟩ := hrel
              obtain ⟨wz, rfl⟩ : ∃ wz, wz = wr := ⟨_, rfl⟩
              obtain ⟨x0, y0, x1⟩ := HCX.out _ HB2.out
              by_cases hlt3 : k < KL
              · have q6 : decide ((k : Int) < (KL : Int)) = true := decide_eq_true (by omega)
                obtain ⟨b2, off2, rfl, hb2, hc2⟩ := words_own HKL.out.symm HS2.out (by rw [HKL.out]; omega)
                have c2 := hc2 k (by rw [HKL.out]; exact hlt3)
                have HSV := Lib.hid (HKS.out _ (getD_mem (l := K) (j := k) (by rw [HKL.out]; exact hlt3)))
                generalize K.getD k 0 = v at *
                clear hc2
                have key : (A3 != 0) = true ∨ ((A3 != 0) = false ∧ ((k : Int) != A6) = true) ∨ ((A3 != 0) = false ∧ ((k : Int) != A6) = false) := by
                  cases (A3 != 0) <;> cases ((k : Int) != A6) <;> simp
                rcases key with p1 | ⟨p1, p2⟩ | ⟨p1, p2⟩
                · have hown := HL2.out.2.2
                  have HBA := Lib.hid (HB2.out.alloc HB2.out.size (.cells #[.int .u64 v] 25))
                  have hbs : w.heap.size ≤ (wz.alloc (.cells #[.int .u64 v] 25)).heap.size := HBA.out.size
                  go_wp2_with (at_builtin; refine wpList_append_own_at _ rfl (.tmp 94) (.tmp 99) 22 rfl w.heap.size 25 i0 (.int .u64 0) 1 8 Tryz.underlying22 hi hz0 hz1 hz2 rfl (by decide) _ m2 (uV L2) rfl (hown.alloc _) ⟨wz.heap.size, 0, none⟩ 1 1 [.int .u64 v] rfl rfl (cells_new _ _ _ _ rfl) (by simp [Value.oneCell']) (by unfold maxLen; omega) (by omega) hbs ?_; intro v3 w3 hown1 hgrow _ hat)
                  obtain ⟨lo3, lc3, rfl, -⟩ := own_form hown1
                  have HO3 : Hid ((L2 ++ [v]).length = m2 + 1 ∧ Sized R (L2 ++ [v]) ∧ w3.ownsRow w.heap.size 25 1 (.slice lo3 (m2 + 1) lc3) (m2 + 1) (uV (L2 ++ [v]))) := ⟨by rw [List.length_append, HL2.out.1]; rfl, fun u hu => (List.mem_append.1 hu).elim (HL2.out.2.1 u) (fun h => by rw [List.mem_singleton.1 h]; exact HSV.out), by rw [uV_snoc]; exact hown1⟩
                  have HB3 := Lib.hid (below_append HBA.out (hown.alloc (.cells #[.int .u64 v] 25)) hbs hgrow)
                  have HS3 := Lib.hid ((HS2.out.alloc (.cells #[.int .u64 v] 25)).kept hgrow HAP.out.symm.ne)
                  have HA3 := Lib.hid (HAP.out.step hat (fun k hk => (HS2.out.alloc (.cells #[.int .u64 v] 25)).lt_size k hk))
                  clear hown hown1 hgrow hbs HBA hat
                  go_roundw
                  case rel => exact ⟨L2 ++ [v], m2 + 1, k + 1, lo3, lc3, by omega, by omega, by go_num, rfl, HO3.out, HS3.out, HA3.out, HB3.out⟩
                  case measure => simp [intOf]; omega
                · have hown := HL2.out.2.2
                  have HBA := Lib.hid (HB2.out.alloc HB2.out.size (.cells #[.int .u64 v] 25))
                  have hbs : w.heap.size ≤ (wz.alloc (.cells #[.int .u64 v] 25)).heap.size := HBA.out.size
                  go_wp2_with (at_builtin; refine wpList_append_own_at _ rfl (.tmp 94) (.tmp 99) 22 rfl w.heap.size 25 i0 (.int .u64 0) 1 8 Tryz.underlying22 hi hz0 hz1 hz2 rfl (by decide) _ m2 (uV L2) rfl (hown.alloc _) ⟨wz.heap.size, 0, none⟩ 1 1 [.int .u64 v] rfl rfl (cells_new _ _ _ _ rfl) (by simp [Value.oneCell']) (by unfold maxLen; omega) (by omega) hbs ?_; intro v3 w3 hown1 hgrow _ hat)
                  obtain ⟨lo3, lc3, rfl, -⟩ := own_form hown1
                  have HO3 : Hid ((L2 ++ [v]).length = m2 + 1 ∧ Sized R (L2 ++ [v]) ∧ w3.ownsRow w.heap.size 25 1 (.slice lo3 (m2 + 1) lc3) (m2 + 1) (uV (L2 ++ [v]))) := ⟨by rw [List.length_append, HL2.out.1]; rfl, fun u hu => (List.mem_append.1 hu).elim (HL2.out.2.1 u) (fun h => by rw [List.mem_singleton.1 h]; exact HSV.out), by rw [uV_snoc]; exact hown1⟩
                  have HB3 := Lib.hid (below_append HBA.out (hown.alloc (.cells #[.int .u64 v] 25)) hbs hgrow)
                  have HS3 := Lib.hid ((HS2.out.alloc (.cells #[.int .u64 v] 25)).kept hgrow HAP.out.symm.ne)
                  have HA3 := Lib.hid (HAP.out.step hat (fun k hk => (HS2.out.alloc (.cells #[.int .u64 v] 25)).lt_size k hk))
                  clear hown hown1 hgrow hbs HBA hat
                  go_roundw
                  case rel => exact ⟨L2 ++ [v], m2 + 1, k + 1, lo3, lc3, by omega, by omega, by go_num, rfl, HO3.out, HS3.out, HA3.out, HB3.out⟩
                  case measure => simp [intOf]; omega
                · go_wp2
                  go_roundw
                  case rel => exact ⟨L2, m2, k + 1, lo2, lc2, by omega, by omega, by go_num, rfl, HL2.out, HS2.out, HAP.out, HB2.out⟩
                  case measure => simp [intOf]; omega
              · obtain rfl : k = KL := by omega
                have q6 : decide ((k : Int) < (k : Int)) = false := decide_eq_false (by omega)
                have HF2 := HL2.out
                have hIw : IntKind.i64.wrap ((I : Int) + 2) = ((I + 2 : Nat) : Int) := by rw [show (I : Int) + 2 = ((I + 2 : Nat) : Int) by omega]; exact IntWalk.i64_in _ (by omega)
                have key : (A1 == 1) = true ∨ (A1 == 1) = false := by cases (A1 == 1) <;> simp
                rcases key with p1 | p1
                · have hown := HL2.out.2.2
                  have HBA := Lib.hid (HB2.out.alloc HB2.out.size (.cells #[.int .u64 (wordN R z : Nat)] 25))
                  have hbs : w.heap.size ≤ (wz.alloc (.cells #[.int .u64 (wordN R z : Nat)] 25)).heap.size := HBA.out.size
                  go_wp2_with (at_builtin; refine wpList_append_own_at _ rfl (.tmp 108) (.tmp 110) 22 rfl w.heap.size 25 i0 (.int .u64 0) 1 8 Tryz.underlying22 hi hz0 hz1 hz2 rfl (by decide) _ m2 (uV L2) rfl (hown.alloc _) ⟨wz.heap.size, 0, none⟩ 1 1 [.int .u64 (wordN R z : Nat)] rfl rfl (cells_new _ _ _ _ rfl) (by simp [Value.oneCell']) (by unfold maxLen; omega) (by omega) hbs ?_; intro v3 w3 hown1 hgrow _ hat)
                  obtain ⟨lo3, lc3, rfl, -⟩ := own_form hown1
                  have HO3 : Hid ((L2 ++ [(wordN R z : Int)]).length = m2 + 1 ∧ Sized R (L2 ++ [(wordN R z : Int)]) ∧ w3.ownsRow w.heap.size 25 1 (.slice lo3 (m2 + 1) lc3) (m2 + 1) (uV (L2 ++ [(wordN R z : Int)]))) := ⟨by rw [List.length_append, HL2.out.1]; rfl, fun u hu => (List.mem_append.1 hu).elim (HL2.out.2.1 u) (fun h => by rw [List.mem_singleton.1 h]; exact ⟨z, HOK.out, rfl⟩), by rw [uV_snoc]; exact hown1⟩
                  have HB3 := Lib.hid (below_append HBA.out (hown.alloc (.cells #[.int .u64 (wordN R z : Nat)] 25)) hbs hgrow)
                  clear hown hown1 hgrow hbs HBA hat
                  go_roundw
                  case rel => exact ⟨L2 ++ [(wordN R z : Int)], m2 + 1, I + 2, lo3, lc3, by omega, by omega, by go_num, rfl, HO3.out, HB3.out⟩
                  case measure => simp [intOf]; omega
                · go_wp2
                  go_roundw
                  case rel => exact ⟨L2, m2, I + 2, lo2, lc2, by omega, by omega, by go_num, rfl, HL2.out, HB2.out⟩
                  case measure => simp [intOf]; omega
      · have q4 : decide ((I : Int) < 12) = false := decide_eq_false (by omega)
        have q4n : decide (I < 12) = false := decide_eq_false h2
        have HF : Hid (∃ (L' : List Int) (m' : Nat) (ao : Option Addr) (c : Nat), Ending.returned (.slice lo m lc) = .returned (.slice ao m' c) ∧ L'.length = m' ∧ m' ≤ 400 ∧ Sized R L' ∧ wo.ownsRow w.heap.size 25 1 (.slice ao m' c) m' (uV L') ∧ Below w.heap.size w wo) := ⟨L, m, lo, lc, rfl, HL.out.1, by omega, HL.out.2.1, HL.out.2.2, HI.out⟩
        go_wp2
        go_ret
        exact HF.out
    · have q3 : decide ((I : Int) + 1 < (n0 : Int)) = false := decide_eq_false (by omega)
      have HF : Hid (∃ (L' : List Int) (m' : Nat) (ao : Option Addr) (c : Nat), Ending.returned (.slice lo m lc) = .returned (.slice ao m' c) ∧ L'.length = m' ∧ m' ≤ 400 ∧ Sized R L' ∧ wo.ownsRow w.heap.size 25 1 (.slice ao m' c) m' (uV L') ∧ Below w.heap.size w wo) := ⟨L, m, lo, lc, rfl, HL.out.1, by omega, HL.out.2.1, HL.out.2.2, HI.out⟩
      go_wp2
      go_ret
      exact HF.out
end Go.Proofs.YtkjfdaleamonaaaGreat
/- Plain law on packF: no seven brothers. -/
namespace Go.Proofs.YtkjfdaleamonaaaGreat
open Go.RowKit Go.Lib Wd

def broF (q : Int) (v : Int) : Bool := (parE v.toNat == 0) && (parI v == q)
theorem word_par {k : Nat} {z : E2} (hz : okB k z = true) : (k = 0 ∧ parE (wordN k z) = 3) ∨ ∃ j, k = j + 1 ∧ parE (wordN k z) = 0 ∧ parI (wordN k z : Int) = (wordN j (upE z) : Int) ∧ okB j (upE z) = true := by
  rcases par_word hz with h | ⟨j, e, h1, h2, h3⟩
  · exact .inl h
  · exact .inr ⟨j, e, h1, by unfold parI; rw [Int.toNat_natCast, h2], h3⟩
theorem pk_bro {R : Nat} {l : List Int} (hs : Sized R l) {u : Int} (hu : u ∈ packF R l) (h0 : parE u.toNat = 0) : ((packF R l).filter (broF (parI u))).length < 7 := by
  obtain ⟨k, hk, z, hz, rfl⟩ := pk_sized hs hu
  rw [Int.toNat_natCast] at h0
  rcases word_par hz with ⟨-, e⟩ | ⟨j, rfl, -, e2, hj⟩
  · rw [e] at h0; cases h0
  · rw [e2]
    have hj12 : j + 1 ≤ 12 := (okB_parts hz).1
    have hup : Up ((packF R l).filter (broF (wordN j (upE z) : Int))) := filter_up (setF_up _) _
    have hmem : ∀ v ∈ (packF R l).filter (broF (wordN j (upE z) : Int)), v ∈ kidsW j (wordN j (upE z)) := fun v hv => by
      obtain ⟨hv1, hv2⟩ := List.mem_filter.1 hv
      obtain ⟨k', -, y, hy, rfl⟩ := pk_sized hs hv1
      unfold broF at hv2
      rw [Bool.and_eq_true, beq_iff_eq, beq_iff_eq, Int.toNat_natCast] at hv2
      rcases word_par hy with ⟨-, e⟩ | ⟨j', rfl, -, e3, hj'⟩
      · rw [e] at hv2; cases hv2.1
      · rw [e3] at hv2
        obtain ⟨e4, e5⟩ := word_inj hj' hj (by omega)
        subst e4
        rw [← e5]
        exact kid_of hy
    obtain ⟨h1, h2⟩ := kids_full hj12 (B := ((packF R l).filter (broF (wordN j (upE z) : Int))).reverse) hup.rev (fun v hv => hmem v (List.mem_reverse.1 hv))
    rw [List.length_reverse] at h1 h2
    rcases Nat.lt_or_ge ((packF R l).filter (broF (wordN j (upE z) : Int))).length 7 with h | h
    · exact h
    · exfalso
      have h3 := h2.1 (by omega)
      refine pack_bro R (setF l) (sized_set hs) j (upE z) hj12 hj fun v hv => ?_
      exact (setF_mem _ _).1 (List.mem_filter.1 (List.mem_reverse.1 (h3 v hv))).1
end Go.Proofs.YtkjfdaleamonaaaGreat
/- Contract of apiaryref1.Compact. -/
namespace Go.Proofs.YtkjfdaleamonaaaGreat
open Go.RowKit Go.Lib Wd

/-- One level: what is done, what goes up, over a list's first part. -/
def upA (A B : List Int) : List Int := (B.filter fun v => fullB A v).map parI
def doA (A B : List Int) : List Int := B.filter fun v => !fullB A v
theorem up_snoc (A : List Int) {B : List Int} {k : Nat} (h : k < B.length) : upA A (B.take (k + 1)) = if fullB A (B.getD k 0) = true then upA A (B.take k) ++ [parI (B.getD k 0)] else upA A (B.take k) := by
  unfold upA
  rw [take_w B h, List.filter_append, List.map_append, List.filter_cons]
  by_cases hf : fullB A (B.getD k 0) = true
  · rw [if_pos hf, if_pos hf]; rfl
  · rw [if_neg hf, if_neg hf]; simp
theorem do_snoc (A : List Int) {B : List Int} {k : Nat} (h : k < B.length) : doA A (B.take (k + 1)) = if fullB A (B.getD k 0) = true then doA A (B.take k) else doA A (B.take k) ++ [B.getD k 0] := by
  unfold doA
  rw [take_w B h, List.filter_append, List.filter_cons]
  by_cases hf : fullB A (B.getD k 0) = true
  · rw [if_pos hf, hf, if_neg (by decide)]; simp
  · rw [if_neg hf, Bool.eq_false_iff.2 hf, if_pos (by decide)]; rfl
theorem level_next (A : List Int) : setF (upA A A) = nextL A := rfl
theorem level_done (A : List Int) (r : Nat) : doA A A ++ packN r (nextL A) = packN (r + 1) A := rfl
/-- Full: all the seven are there. -/
theorem full_kids {r : Nat} {A : List Int} {v : Int} (hv : ∃ z, okB (r + 1 : Nat) z = true ∧ v = (wordN (r + 1) z : Int)) :
    ∃ p, okB r p = true ∧ parI v = (wordN r p : Int) ∧ parE v.toNat = 0 ∧ fullB A v = (dsN 1 r p).all fun u => A.contains u := by
  have hr : r + 1 ≤ 12 := by obtain ⟨z, hz, -⟩ := hv; exact (okB_parts hz).1
  obtain ⟨e, p, hp, e2, hk⟩ := word_parts hv
  refine ⟨p, hp, e2, e, ?_⟩
  rw [Bool.eq_iff_iff, full_iff hr hp hk, List.all_eq_true, kids_ds hr]
  simp only [List.contains_iff_mem]
theorem cmp_many {l : List Int} (h : 20000 < l.length) : cmpE l = 7 ∧ cmpL l = [] := by
  have e : cmpE l = 7 := by unfold cmpE; rw [if_pos h]
  exact ⟨e, by unfold cmpL; rw [e]; rfl⟩
theorem cmp_word {l : List Int} (hl : l.length ≤ 20000) {k : Nat} (hk : k < l.length) (h : isW (l.getD k 0).toNat = false) : cmpE l = 5 ∧ cmpL l = [] := by
  have hne : l ≠ [] := fun e => by rw [e] at hk; cases hk
  have e : cmpE l = 5 := by
    unfold cmpE
    rw [if_neg (by omega), if_neg hne]
    unfold alkE
    rw [if_neg]
    intro ha
    rw [List.all_eq_true.1 ha _ (getD_mem hk)] at h
    cases h
  exact ⟨e, by unfold cmpL; rw [e]; rfl⟩
theorem chk_bad {r : Int} : ∀ {l : List Int}, allW l = true → ∀ {k : Nat}, k < l.length → (rW (l.getD k 0).toNat : Int) ≠ r → chkF r l = 8
  | x :: l, ha, k, hk, hne => by
    obtain ⟨h1, h2⟩ : isW x.toNat = true ∧ allW l = true := by unfold allW at ha; rw [List.all_cons, Bool.and_eq_true] at ha; exact ha
    unfold chkF
    rw [if_pos h1]
    by_cases e : (rW x.toNat : Int) = r
    · rw [if_pos e]
      cases k with
      | zero => exact absurd e hne
      | succ k => exact chk_bad h2 (k := k) (by simpa using hk) hne
    · rw [if_neg e]
theorem cmp_res {l : List Int} (hl : l.length ≤ 20000) (ha : allW l = true) {k : Nat} (hk : k < l.length) (h : rW (l.getD k 0).toNat ≠ rW (l.getD 0 0).toNat) : cmpE l = 8 ∧ cmpL l = [] := by
  have hne : l ≠ [] := fun e => by rw [e] at hk; cases hk
  have hw0 : isW (l.getD 0 0).toNat = true := List.all_eq_true.1 ha _ (getD_mem (by omega))
  have e : cmpE l = 8 := by
    unfold cmpE
    rw [if_neg (by omega), if_neg hne]
    unfold alkE
    rw [if_pos ha, show resW (l.getD 0 0).toNat = (rW (l.getD 0 0).toNat : Int) by unfold resW; rw [if_pos hw0]]
    exact chk_bad ha hk (by omega)
  exact ⟨e, by unfold cmpL; rw [e]; rfl⟩
theorem sized_of {l : List Int} (h64 : In64 l) (ha : allW l = true) (hr : ∀ k, k < l.length → rW (l.getD k 0).toNat = rW (l.getD 0 0).toNat) : Sized (rW (l.getD 0 0).toNat) l := fun v hv => by
  have hw := List.all_eq_true.1 ha v hv
  obtain ⟨k, hk, rfl⟩ := List.getElem_of_mem hv
  have e := hr k hk
  rw [List.getD_eq_getElem?_getD, List.getElem?_eq_getElem hk, Option.getD_some] at e
  obtain ⟨d1, d2⟩ := cell_word hw
  have := h64 _ hv
  rw [← e]
  exact ⟨_, d1, by omega⟩
theorem top_word {u : Nat} (h : isW u = true) : u / 72057594037927936 = 16 + rW u := by
  have h1 := ((isW_iff u).1 h).1
  unfold rW
  omega
theorem own_aside {w w' : World} {base n size : Nat} {e : TypeId} {v u : Value} {xs : List Value} (h : w.ownsRow base e size u n xs) (hg : w.grownBy w' v.ownBlock) (ha : Apart v u) : w'.ownsRow base e size u n xs :=
  own_turn' h (turn_grown hg) fun k hk hs => ha k hs.symm hk
theorem all_snoc (A : List Int) {K : List Int} {j : Nat} (h : j < K.length) : ((K.take (j + 1)).all fun u => A.contains u) = (((K.take j).all fun u => A.contains u) && A.contains (K.getD j 0)) := by
  rw [take_w K h, List.all_append, List.all_cons, List.all_nil, Bool.and_true]
set_option maxRecDepth 100000 in
set_option maxHeartbeats 16000000 in
theorem rcompact_any (ao : Option Addr) (c : Nat) (l : List Int) (w : World) (B : Nat) (h : WordsAt w B ao l) (hB : B ≤ w.heap.size) (hn : l.length ≤ 1000000) (h64 : In64 l) :
    Calls Tryz.prog 34 #[.slice ao l.length c] w (ToldP w (cmpL l) (cmpE l)) := by
  obtain ⟨i0, hi, hz0, hz1, hz2⟩ := info_parts info_u
  obtain ⟨n, hnn⟩ : ∃ n, l.length = n := ⟨_, rfl⟩
  have HN := Lib.hid hnn
  have HW := Lib.hid h
  have HNIL : Hid (∀ (err : Int) w', Below w.heap.size w w' → cmpE l = err ∧ cmpL l = [] → ToldP w (cmpL l) (cmpE l) (.returned (.tuple #[.slice none 0 0, .int .i64 err])) w') := fun err w' hb he => by
    rw [he.1, he.2]
    exact ⟨none, 0, rfl, World.ownsRow_nil _ _ _ _, hb⟩
  rw [hnn]
  by_cases hbig : 20000 < n
  · have q1 : decide (20000 < (n : Int)) = true := decide_eq_true (by omega)
    have q1n : decide (20000 < n) = true := decide_eq_true hbig
    have HF := Lib.hid (HNIL.out 7 w (Below.refl _ _) (cmp_many (by omega)))
    go_enter Tryz.func34, Tryz.ntmps34
    go_wp2
    go_ret2
    exact HF.out
  · have q1 : decide (20000 < (n : Int)) = false := decide_eq_false (by omega)
    have q1n : decide (20000 < n) = false := decide_eq_false hbig
    have HV : Hid (∀ k, k < n → ∃ u : Nat, l.getD k 0 = u ∧ u < 18446744073709551616) := fun k hk => by
      have := h64 _ (getD_mem (j := k) (l := l) (by omega))
      exact ⟨(l.getD k 0).toNat, by omega, by omega⟩
    have HISW : Hid (∀ u : Nat, u < 18446744073709551616 → ∀ w, _) := isw_any
    have HX1 : Hid (∀ k, k < n → isW (l.getD k 0).toNat = false → cmpE l = 5 ∧ cmpL l = []) := fun k hk hw => cmp_word (by omega) (by omega) hw
    have HX2 : Hid ((∀ k, k < n → isW (l.getD k 0).toNat = true) → allW l = true) := fun hh => sz_all (by rw [HN.out]; exact hh)
    have HX3 : Hid (allW l = true → ∀ k, k < n → rW (l.getD k 0).toNat ≠ rW (l.getD 0 0).toNat → cmpE l = 8 ∧ cmpL l = []) := fun ha k hk hne => cmp_res (by omega) ha (by omega) hne
    have HX4 : Hid (allW l = true → (∀ k, k < n → rW (l.getD k 0).toNat = rW (l.getD 0 0).toNat) → Sized (rW (l.getD 0 0).toNat) l) := fun ha hh => sized_of h64 ha (by rw [HN.out]; exact hh)
    clear h h64 hnn hn
    go_enter Tryz.func34, Tryz.ntmps34
    go_wp2
    go_loopw [4] (fun i wr => ∃ (k : Nat), k ≤ n ∧ i = .int .i64 k ∧ Hid (∀ j, j < k → isW (l.getD j 0).toNat = true) ∧ Hid (Below w.heap.size w wr)) (fun i _ => n - (intOf i).toNat)
    case atStart => exact ⟨0, by omega, rfl, fun j hj => by omega, Below.refl _ _⟩
    case round =>
      obtain ⟨k, hk, rfl, HA, HI⟩ := hrel
      have hsz := HI.out.size
      by_cases hlt : k < n
      · obtain ⟨g, off, rfl, hg, hc⟩ := (HW.out.below HI.out hB) (by rw [HN.out]; omega)
        have c0 := hc k (by rw [HN.out]; exact hlt)
        obtain ⟨u, hu, hu2⟩ := HV.out k hlt
        have hx1 := HX1.out k hlt
        have ha2 : isW (l.getD k 0).toNat = true → ∀ j, j < k + 1 → isW (l.getD j 0).toNat = true := fun hk2 j hj => by
          by_cases e : j = k
          · rw [e]; exact hk2
          · exact HA.out j (by omega)
        rw [hu, Int.toNat_natCast] at hx1 ha2
        rw [hu] at c0
        have HIW := Lib.hid (HISW.out u hu2)
        have hgw : g < wr.heap.size := by omega
        have q2 : decide ((k : Int) < (n : Int)) = true := decide_eq_true (by omega)
        cases hiw : isW u with
        | false =>
          have HE := Lib.hid (hx1 hiw)
          rw [hiw] at HIW
          clear hc hx1 ha2 hiw hu
          go_wp2_with fail
          refine (HIW.out _).mono ?_
          rintro e w2 ⟨rfl, hb2⟩
          have HF := Lib.hid (HNIL.out 5 w2 (HI.out.trans (hb2.mono hsz)) HE.out)
          clear hb2
          go_wp2
          go_ret2
          exact HF.out
        | true =>
          have HA2 := Lib.hid (ha2 hiw)
          rw [hiw] at HIW
          clear hc hx1 ha2 hiw hu
          go_wp2_with fail
          refine (HIW.out _).mono ?_
          rintro e w2 ⟨rfl, hb2⟩
          have HB2 := Lib.hid (HI.out.trans (hb2.mono hsz))
          clear hb2 c0
          go_wp2
          go_roundw
          case rel => exact ⟨k + 1, by omega, by go_num, HA2.out, HB2.out⟩
          case measure => simp [intOf]; omega
      · obtain rfl : k = n := by omega
        have HAL := Lib.hid (HX2.out HA.out)
        have HALL := HA
        have q2 : decide ((k : Int) < (k : Int)) = false := decide_eq_false (by omega)
        obtain ⟨w0, rfl⟩ : ∃ w0, w0 = wr := ⟨_, rfl⟩
        clear HX1 HX2 HISW HA
        have HTOP : Hid (∀ j, j < k → ∃ u : Nat, l.getD j 0 = u ∧ ((u : Int) / 72057594037927936 = ((16 + rW (l.getD j 0).toNat : Nat) : Int))) := fun j hj => by
          obtain ⟨u, hu, -⟩ := HV.out j hj
          have h1 := HALL.out j hj
          rw [hu, Int.toNat_natCast] at h1
          refine ⟨u, hu, ?_⟩
          rw [hu, Int.toNat_natCast, ← top_word h1]
          omega
        go_wp2
        go_loopw [5] (fun i wr => ∃ (j : Nat), 1 ≤ j ∧ j ≤ k + 1 ∧ i = .int .i64 j ∧ Hid (∀ m, m < j → m < k → rW (l.getD m 0).toNat = rW (l.getD 0 0).toNat) ∧ Hid (Below w.heap.size w wr)) (fun i _ => k + 1 - (intOf i).toNat)
        case atStart => exact ⟨1, by omega, by omega, rfl, fun m h1 _ => by rw [show m = 0 by omega], HI.out⟩
        case round =>
          obtain ⟨j, hj1, hj2, rfl, HA, HI⟩ := hrel
          have hsz := HI.out.size
          by_cases hlt : j < k
          · obtain ⟨g, off, rfl, hg, hc⟩ := (HW.out.below HI.out hB) (by rw [HN.out]; omega)
            have c0 := hc j (by rw [HN.out]; exact hlt)
            have c1 := hc 0 (by rw [HN.out]; omega)
            rw [Nat.add_zero] at c1
            obtain ⟨u, hu, ht⟩ := HTOP.out j hlt
            obtain ⟨u0, hu0, ht0⟩ := HTOP.out 0 (by omega)
            have hx3 := HX3.out HAL.out j hlt
            have ha2 : rW (l.getD j 0).toNat = rW (l.getD 0 0).toNat → ∀ m, m < j + 1 → m < k → rW (l.getD m 0).toNat = rW (l.getD 0 0).toNat := fun hk2 m hm hm2 => by
              by_cases e : m = j
              · rw [e]; exact hk2
              · exact HA.out m (by omega) hm2
            rw [hu] at c0
            rw [hu0] at c1
            generalize rW (l.getD j 0).toNat = T at *
            generalize rW (l.getD 0 0).toNat = T0 at *
            have hgw : g < wr.heap.size := by omega
            have q3 : decide ((j : Int) < (k : Int)) = true := decide_eq_true (by omega)
            have hk0 : (0 : Int) < (k : Int) := by omega
            have hjk : (j : Int) < (k : Int) := by omega
            by_cases hT : T = T0
            · have HA2 := Lib.hid (ha2 hT)
              have p1 : (((16 + T : Nat) : Int) != ((16 + T0 : Nat) : Int)) = false := by simp [hT]
              obtain ⟨X, hX⟩ : ∃ X, ((16 + T : Nat) : Int) = X := ⟨_, rfl⟩
              obtain ⟨Y, hY⟩ : ∃ Y, ((16 + T0 : Nat) : Int) = Y := ⟨_, rfl⟩
              rw [hX, hY] at p1
              rw [hX] at ht
              rw [hY] at ht0
              clear hc hx3 ha2 hu hu0 hX hY hT
              go_wp2_with (first | (with_reducible refine wp_region_lex (by kernel_rfl) (by kernel_rfl) ?_) | (with_reducible refine OnlyG.intro (by kernel_rfl) ?_))
              go_roundw
              case rel => exact ⟨j + 1, by omega, by omega, by go_num, HA2.out, HI.out.trans ((Below.refl _ _).drew)⟩
              case measure => simp [intOf]; omega
            · have HF := Lib.hid (HNIL.out 8 wr.drew (HI.out.trans ((Below.refl _ _).drew)) (hx3 hT))
              have p1 : (((16 + T : Nat) : Int) != ((16 + T0 : Nat) : Int)) = true := by simp; omega
              obtain ⟨X, hX⟩ : ∃ X, ((16 + T : Nat) : Int) = X := ⟨_, rfl⟩
              obtain ⟨Y, hY⟩ : ∃ Y, ((16 + T0 : Nat) : Int) = Y := ⟨_, rfl⟩
              rw [hX, hY] at p1
              rw [hX] at ht
              rw [hY] at ht0
              clear hc hx3 ha2 hu hu0 hX hY hT
              go_wp2_with (first | (with_reducible refine wp_region_lex (by kernel_rfl) (by kernel_rfl) ?_) | (with_reducible refine OnlyG.intro (by kernel_rfl) ?_))
              go_ret2
              exact HF.out
          · have HR := Lib.hid (HX4.out HAL.out (fun m hm => HA.out m (by omega) hm))
            have q3 : decide ((j : Int) < (k : Int)) = false := decide_eq_false (by omega)
            obtain ⟨w1, rfl⟩ : ∃ w1, w1 = wr := ⟨_, rfl⟩
            clear HX3 HX4 HA HTOP
            obtain ⟨r, hr⟩ : ∃ r, rW (l.getD 0 0).toNat = r := ⟨_, rfl⟩
            have hS := HR.out
            rw [hr] at hS
            obtain ⟨e1, e2⟩ := cmp_pack hS (by rw [HN.out]; omega)
            have HE := Lib.hid (And.intro e1 e2)
            have hsl := setF_length l
            rw [HN.out] at hsl
            have hset := rset_own ao c l w1 (HW.out.below HI.out hB |>.wider (Nat.le_trans hB HI.out.size)) (by rw [HN.out]; omega)
            rw [HN.out] at hset
            obtain ⟨na0, hna0⟩ : ∃ x, (setF l).length = x := ⟨_, rfl⟩
            rw [hna0] at hsl
            have HSET := Lib.hid hset
            have HSS := Lib.hid (sized_set hS)
            have HN0 := Lib.hid hna0
            have hs1 := HI.out.size
            have HB1 := HI
            clear hset hr hS e1 e2 HR hna0
            go_wp2_with fail
            refine HSET.out.mono ?_
            rintro e w2 ⟨xo, xc, rfl, hx2, hb2⟩
            rw [HN0.out]
            rw [HN0.out] at hx2
            have HX2 := Lib.hid (own_base hx2 hs1)
            have HB2 := Lib.hid (HB1.out.trans (hb2.mono hs1))
            clear hx2 hb2 HB1 HSET HI
            have HFIN : Hid (∀ so sc w', w'.ownsRow w.heap.size 25 1 (.slice so (packF r l).length sc) (packF r l).length (uV (packF r l)) → Below w.heap.size w w' → ToldP w (cmpL l) (cmpE l) (.returned (.tuple #[.slice so (packF r l).length sc, .int .i64 0])) w') := fun so sc w' ho hb => by
              rw [HE.out.1, HE.out.2]
              exact ⟨so, sc, rfl, ho, hb⟩
            obtain ⟨P, hP⟩ : ∃ P, packF r l = P := ⟨_, rfl⟩
            have HP0 : Hid (setF ([] ++ packN r (setF l)) = P) := by show _ = _; rw [List.nil_append, ← hP]; rfl
            rw [hP] at HFIN
            have hr12 : r ≤ 12 ∨ setF l = [] := by
              by_cases e : setF l = []
              · exact .inr e
              · exact .inl (sized_le HSS.out e)
            have HUP : Hid (Up (setF l)) := setF_up l
            generalize setF l = A0 at *
            clear hP HE
            go_wp2
            go_loopg [6, 7] 16 (fun N xv dv wr => ∃ (q : Nat) (A D : List Int) (na nd : Nat) (xo dd : Option Addr) (xc dc : Nat), q ≤ N ∧ na + nd ≤ 20000 ∧ xv = .slice xo na xc ∧ dv = .slice dd nd dc ∧ Hid (A.length = na ∧ D.length = nd ∧ Sized q A ∧ Up A ∧ setF (D ++ packN q A) = P) ∧ Hid (wr.ownsRow w.heap.size 25 1 (.slice xo na xc) na (uV A)) ∧ Hid (wr.ownsRow w.heap.size 25 1 (.slice dd nd dc) nd (uV D)) ∧ Hid (Apart (.slice xo na xc) (.slice dd nd dc)) ∧ Hid (Below w.heap.size w wr))
            case atStart =>
              have hap : Apart (.slice xo na0 xc) (.slice none 0 0) := fun k h1 h2 => by cases h2
              rcases hr12 with h | h
              · exact ⟨r, A0, [], na0, 0, xo, none, xc, 0, by omega, by omega, rfl, rfl, ⟨HN0.out, rfl, HSS.out, HUP.out, HP0.out⟩, HX2.out, World.ownsRow_nil _ _ _ _, hap, HB2.out⟩
              · have h0 := HP0.out
                rw [h, packN_nil] at h0
                exact ⟨0, A0, [], na0, 0, xo, none, xc, 0, by omega, by omega, rfl, rfl, ⟨HN0.out, rfl, (fun v hv => (by rw [h] at hv; cases hv)), HUP.out, by rw [h, packN_nil]; exact h0⟩, HX2.out, World.ownsRow_nil _ _ _ _, hap, HB2.out⟩
            case round =>
              obtain ⟨q, A, D, na, nd, xo, dd, xc, dc, hqN, hlen, rfl, rfl, HAD, HXO, HDO, HAP, HI⟩ := hrel
              have hsz := HI.out.size
              by_cases hna : na = 0
              · have hA0 : A = [] := List.eq_nil_of_length_eq_zero (by rw [HAD.out.1]; exact hna)
                have heq : setF (D ++ A) = P := by
                  have h9 := HAD.out.2.2.2.2
                  rw [hA0, packN_nil] at h9
                  rw [hA0]; exact h9
                subst hna
                clear hA0
                have hw := words_own HAD.out.1.symm HXO.out
                obtain ⟨v3, w3, hr3, ho3, hg3⟩ := append_words (w := wr) HDO.out hw HAD.out.1 (own_none HXO.out) hsz (by omega)
                obtain ⟨yo, yc, rfl, -⟩ := own_form ho3
                have HR3 := Lib.hid hr3
                have hb3 := below_append HI.out HDO.out hsz hg3
                have hset := rset_own yo yc (D ++ A) w3 (words_own (by rw [List.length_append, HAD.out.1, HAD.out.2.1]) ho3) (by rw [List.length_append, HAD.out.1, HAD.out.2.1]; omega)
                rw [List.length_append, HAD.out.1, HAD.out.2.1] at hset
                rw [heq] at hset
                have HSET := Lib.hid hset
                have HB3 := Lib.hid hb3
                clear hw hr3 ho3 hg3 hb3 hset
                go_wp2_with (at_builtin; refine wpList_append_want _ (by kernel_rfl) (.tmp 102) (.tmp 103) 22 22 rfl _ _ rfl rfl _ _ HR3.out ?_)
                refine HSET.out.mono ?_
                rintro e w4 ⟨so, sc, rfl, ho4, hb4⟩
                have HFF := Lib.hid (HFIN.out so sc w4 (own_base ho4 HB3.out.size) (HB3.out.trans (hb4.mono HB3.out.size)))
                clear ho4 hb4
                go_wp2
                go_ret2
                exact HFF.out
              · have q5 : decide (0 < (na : Int)) = true := decide_eq_true (by omega)
                have q5n : decide (0 < na) = true := decide_eq_true (by omega)
                obtain ⟨b0, o0, hxo, hb0, hc0⟩ := words_own HAD.out.1.symm HXO.out (by rw [HAD.out.1]; omega)
                have c0 := hc0 0 (by rw [HAD.out.1]; omega)
                rw [Nat.add_zero] at c0
                obtain ⟨y0, hy0, ev0⟩ := HAD.out.2.2.1 _ (getD_mem (l := A) (j := 0) (by rw [HAD.out.1]; omega))
                rw [ev0] at c0
                have hv0 := (head_val (wordN q y0) (by have := (wordN_lt hy0).1; omega)).1
                rw [(word_cell hy0).2.1] at hv0
                generalize wordN q y0 = u0 at *
                have hna0 : (0 : Int) < (na : Int) := by omega
                clear hc0 ev0
                subst hxo
                by_cases hq : q = 0
                · have heq : setF (D ++ A) = P := by
                    have h9 := HAD.out.2.2.2.2
                    rw [hq] at h9
                    exact h9
                  subst hq
                  have hw := words_own HAD.out.1.symm HXO.out
                  obtain ⟨v3, w3, hr3, ho3, hg3⟩ := append_words (w := wr) HDO.out hw HAD.out.1 (own_none HXO.out) hsz (by omega)
                  obtain ⟨yo, yc, rfl, -⟩ := own_form ho3
                  have HR3 := Lib.hid hr3
                  have hb3 := below_append HI.out HDO.out hsz hg3
                  have hset := rset_own yo yc (D ++ A) w3 (words_own (by rw [List.length_append, HAD.out.1, HAD.out.2.1]) ho3) (by rw [List.length_append, HAD.out.1, HAD.out.2.1]; omega)
                  rw [List.length_append, HAD.out.1, HAD.out.2.1] at hset
                  rw [heq] at hset
                  have HSET := Lib.hid hset
                  have HB3 := Lib.hid hb3
                  clear hw hr3 ho3 hg3 hb3 hset
                  go_wp2_with (at_builtin; refine wpList_append_want _ (by kernel_rfl) (.tmp 102) (.tmp 103) 22 22 rfl _ _ rfl rfl _ _ HR3.out ?_)
                  refine HSET.out.mono ?_
                  rintro e w4 ⟨so, sc, rfl, ho4, hb4⟩
                  have HFF := Lib.hid (HFIN.out so sc w4 (own_base ho4 HB3.out.size) (HB3.out.trans (hb4.mono HB3.out.size)))
                  clear ho4 hb4
                  go_wp2
                  go_ret2
                  exact HFF.out
                · obtain ⟨q', rfl⟩ : ∃ q', q = q' + 1 := ⟨q - 1, by omega⟩
                  have q7 : decide (0 < ((q' + 1 : Nat) : Int)) = true := decide_eq_true (by omega)
                  have q7n : decide (0 < q' + 1) = true := decide_eq_true (by omega)
                  have hq12 : q' + 1 ≤ 12 := (okB_parts hy0).1
                  have HEL : Hid (∀ i, i < na → ∃ (U : Nat) (p : E2), A.getD i 0 = U ∧ U < 18446744073709551616 ∧ parE U = 0 ∧ parW U = wordN q' p ∧ okB q' p = true ∧ parI (U : Int) = (wordN q' p : Int) ∧ fullB A (U : Int) = (dsN 1 q' p).all fun u => A.contains u) := fun i hi => by
                    have hm := getD_mem (l := A) (j := i) (by rw [HAD.out.1]; omega)
                    obtain ⟨p, hp, e1, e2, e3⟩ := full_kids (A := A) (HAD.out.2.2.1 _ hm)
                    obtain ⟨y, hy, e⟩ := HAD.out.2.2.1 _ hm
                    rw [e] at e1 e2 e3
                    rw [Int.toNat_natCast] at e2
                    refine ⟨wordN (q' + 1) y, p, e, by have := (wordN_lt hy).1; omega, e2, ?_, hp, e1, e3⟩
                    unfold parI at e1
                    rw [Int.toNat_natCast] at e1
                    omega
                  have HUS : Hid (∀ i, i < na → upA A (A.take (i + 1)) = if fullB A (A.getD i 0) = true then upA A (A.take i) ++ [parI (A.getD i 0)] else upA A (A.take i)) := fun i hi => up_snoc A (by rw [HAD.out.1]; omega)
                  have HDS : Hid (∀ i, i < na → doA A (A.take (i + 1)) = if fullB A (A.getD i 0) = true then doA A (A.take i) else doA A (A.take i) ++ [A.getD i 0]) := fun i hi => do_snoc A (by rw [HAD.out.1]; omega)
                  have HTE : Hid (A.take na = A) := List.take_of_length_le (by rw [HAD.out.1]; exact Nat.le_refl _)
                  have HHAS : Hid (∀ (xo : Option Addr) (xc : Nat) (x : Int) (w : World), WordsAt w w.heap.size xo A → Calls Tryz.prog 33 #[.slice xo na xc, .int .u64 x] w fun e w' => e = .returned (.bool (A.contains x)) ∧ w = w') := fun xo xc x w h => by
                    have := rhas_any xo xc A x w _ h (by rw [HAD.out.1]; omega) HAD.out.2.2.2.1.rising
                    rw [HAD.out.1, show hasF A x = A.contains x by rw [Bool.eq_iff_iff, hasF_iff, List.contains_iff_mem]] at this
                    exact this
                  clear hna hq hy0
                  obtain ⟨wx, rfl⟩ : ∃ wx, wx = wr := ⟨_, rfl⟩
                  go_wp2
                  clear c0 hb0 hv0
                  go_loopw [7, 8, 9] (fun dv uv iv wz => ∃ (i nd2 nu : Nat) (dd2 uo : Option Addr) (dc2 uc : Nat), i ≤ na ∧ nd2 + nu = nd + i ∧ dv = .slice dd2 nd2 dc2 ∧ uv = .slice uo nu uc ∧ iv = .int .i64 i ∧ Hid ((D ++ doA A (A.take i)).length = nd2 ∧ (upA A (A.take i)).length = nu) ∧ Hid (wz.ownsRow w.heap.size 25 1 (.slice (some ⟨b0, o0, none⟩) na xc) na (uV A)) ∧ Hid (wz.ownsRow w.heap.size 25 1 (.slice dd2 nd2 dc2) nd2 (uV (D ++ doA A (A.take i)))) ∧ Hid (wz.ownsRow w.heap.size 25 1 (.slice uo nu uc) nu (uV (upA A (A.take i)))) ∧ Hid (Apart (.slice (some ⟨b0, o0, none⟩) na xc) (.slice dd2 nd2 dc2) ∧ Apart (.slice uo nu uc) (.slice dd2 nd2 dc2) ∧ Apart (.slice uo nu uc) (.slice (some ⟨b0, o0, none⟩) na xc)) ∧ Hid (Below w.heap.size w wz)) (fun _ _ i _ => na - (intOf i).toNat)
                  case atStart =>
                    refine ⟨0, nd, 0, dd, none, dc, 0, by omega, by omega, rfl, rfl, rfl, ⟨?_, rfl⟩, HXO.out, ?_, World.ownsRow_nil _ _ _ _, ⟨HAP.out, (fun k h1 _ => by cases h1), (fun k h1 _ => by cases h1)⟩, HI.out⟩
                    · show (D ++ []).length = nd
                      rw [List.append_nil]; exact HAD.out.2.1
                    · show World.ownsRow _ _ _ _ _ _ (uV (D ++ []))
                      rw [List.append_nil]; exact HDO.out
                  case round =>
                    obtain ⟨i, nd2, nu, dd2, uo, dc2, uc, hin, hsum, rfl, rfl, rfl, HLN, HNO, HDN, HUN, HAPS, HJ⟩ := hrel
                    have HSUM := Lib.hid hsum
                    have hnu2 : nu ≤ 20000 := by omega
                    have hnd2 : nd2 ≤ 20000 := by omega
                    clear hsum
                    obtain ⟨wz, rfl⟩ : ∃ wz, wz = wr := ⟨_, rfl⟩
                    have hsj := HJ.out.size
                    by_cases hlt : i < na
                    · have p1 : decide ((i : Int) < (na : Int)) = true := decide_eq_true (by omega)
                      obtain ⟨U, pz, hU, hU64, hE, hPW, hpz, hPI, hFU⟩ := HEL.out i hlt
                      obtain ⟨b1, o1, e1, hb1, hc1⟩ := words_own HAD.out.1.symm HNO.out (by rw [HAD.out.1]; omega)
                      cases e1
                      have c1 := hc1 i (by rw [HAD.out.1]; exact hlt)
                      rw [hU] at c1
                      have hus := HUS.out i hlt
                      have hds := HDS.out i hlt
                      rw [hU, hPI] at hus
                      rw [hU] at hds
                      have HWU := wup_any U hU64
                      rw [hPW, hE] at HWU
                      have HWU := Lib.hid HWU
                      have HKC := Lib.hid (rkw_in hpz hq12)
                      have HUS2 := Lib.hid hus
                      have HDS2 := Lib.hid hds
                      have HFU2 := Lib.hid hFU
                      obtain ⟨K, hK⟩ : ∃ K, dsN 1 q' pz = K := ⟨_, rfl⟩
                      have hKl : K.length = 7 := by rw [← hK]; exact ds_len _ _ _
                      rw [hK] at HKC HFU2
                      have HKL := Lib.hid hKl
                      have HUV := Lib.hid hU
                      generalize wordN q' pz = V at *
                      clear hc1 hU hE hPW hpz hPI hFU hus hds hK hKl hU64
                      go_wp2_with fail
                      refine (HWU.out _).mono ?_
                      rintro e w8 ⟨rfl, hb8⟩
                      have HN8 := Lib.hid (own_later HNO.out hb8)
                      have HD8 := Lib.hid (own_later HDN.out hb8)
                      have HU8 := Lib.hid (own_later HUN.out hb8)
                      have HJ8 := Lib.hid (HJ.out.trans (hb8.mono hsj))
                      clear hb8 HNO HDN HUN HJ c1 HWU
                      go_wp2_with fail
                      refine (HKC.out _).mono ?_
                      rintro e w9 ⟨ko, kc, rfl, hko, hb9⟩
                      have HN9 := Lib.hid (own_later HN8.out hb9)
                      have HD9 := Lib.hid (own_later HD8.out hb9)
                      have HU9 := Lib.hid (own_later HU8.out hb9)
                      have HJ9 := Lib.hid (HJ8.out.trans (hb9.mono HJ8.out.size))
                      have HK9 := Lib.hid (words_own HKL.out.symm hko)
                      clear hb9 hko HN8 HD8 HU8 HJ8 HKC
                      go_wp2
                      go_loopw [13, 14] (fun bv jv wy => ∃ (j : Nat) (bb : Bool), j ≤ 7 ∧ jv = .int .i64 j ∧ bv = .bool bb ∧ Hid (bb = ((K.take j).all fun u => A.contains u)) ∧ Hid (w9 = wy)) (fun _ j _ => 7 - (intOf j).toNat)
                      case atStart => exact ⟨0, true, by omega, rfl, rfl, rfl, rfl⟩
                      case round =>
                        obtain ⟨j, bb, hj, rfl, rfl, HB, HWY⟩ := hrel
                        obtain rfl := HWY.out
                        clear HWY
                        by_cases hlt2 : j < 7
                        · have p2 : decide ((j : Int) < 7) = true := decide_eq_true (by omega)
                          obtain ⟨g2, off2, hko, hg2, hc2⟩ := HK9.out (by rw [HKL.out]; omega)
                          have c2 := hc2 j (by rw [HKL.out]; exact hlt2)
                          have hal := all_snoc A (K := K) (j := j) (by rw [HKL.out]; exact hlt2)
                          obtain ⟨x, hx⟩ : ∃ x, K.getD j 0 = x := ⟨_, rfl⟩
                          rw [hx] at c2 hal
                          subst hko
                          have HRH := Lib.hid (HHAS.out _ xc x w9 (words_own HAD.out.1.symm HN9.out))
                          generalize A.contains x = cx at *
                          have HAL := Lib.hid hal
                          clear hc2 hx hal
                          cases bb with
                          | false =>
                            have HAL2 : Hid (false = ((K.take (j + 1)).all fun u => A.contains u)) := by show _ = _; rw [HAL.out, ← HB.out]; rfl
                            clear c2
                            go_wp2
                            go_roundw
                            case rel => exact ⟨j + 1, false, by omega, by go_num, rfl, HAL2.out, trivial⟩
                            case measure => simp [intOf]; omega
                          | true =>
                            have HAL2 : Hid (cx = ((K.take (j + 1)).all fun u => A.contains u)) := by show _ = _; rw [HAL.out, ← HB.out]; rfl
                            go_wp2_with fail
                            refine HRH.out.mono ?_
                            rintro e wq ⟨rfl, rfl⟩
                            clear c2 HRH
                            go_wp2
                            go_roundw
                            case rel => exact ⟨j + 1, cx, by omega, by go_num, rfl, HAL2.out, trivial⟩
                            case measure => simp [intOf]; omega
                        · obtain rfl : j = 7 := by omega
                          have p2 : decide (((7 : Nat) : Int) < 7) = false := by decide
                          have hfull : fullB A (U : Int) = bb := by rw [HFU2.out, HB.out, List.take_of_length_le (by rw [HKL.out]; exact Nat.le_refl _)]
                          have hln := HLN.out
                          have hus2 := HUS2.out
                          have hds2 := HDS2.out
                          rw [hfull] at hus2 hds2
                          obtain ⟨ap1, ap2, ap3⟩ := HAPS.out
                          have HN10 := HN9.out
                          have HD10 := HD9.out
                          have HU10 := HU9.out
                          clear HB HFU2 hfull HUS2 HDS2 HK9 HKL HHAS HN9 HD9 HU9
                          cases bb with
                          | true =>
                            rw [if_pos rfl] at hus2 hds2
                            have hja := HJ9.out.alloc HJ9.out.size (.cells #[.int .u64 V] 25)
                            have hbs : w.heap.size ≤ (w9.alloc (.cells #[.int .u64 V] 25)).heap.size := hja.size
                            have hna := HN10.alloc (.cells #[.int .u64 V] 25)
                            have hda := HD10.alloc (.cells #[.int .u64 V] 25)
                            have hua := HU10.alloc (.cells #[.int .u64 V] 25)
                            have HJA := Lib.hid hja
                            have HNA := Lib.hid hna
                            have HDA := Lib.hid hda
                            have HUSB := Lib.hid hus2
                            have HDSB := Lib.hid hds2
                            have HLB := Lib.hid hln
                            have AP1 := Lib.hid ap1
                            have AP2 := Lib.hid ap2
                            have AP3 := Lib.hid ap3
                            clear hus2 hds2 hln HN10 HD10 HU10 HAPS hja hna hda ap1 ap2 ap3 HLN
                            go_wp2_with (at_builtin; refine wpList_append_own_at _ rfl (.tmp 89) (.tmp 91) 22 rfl w.heap.size 25 i0 (.int .u64 0) 1 8 Tryz.underlying22 hi hz0 hz1 hz2 rfl (by decide) _ nu (uV (upA A (A.take i))) rfl hua ⟨w9.heap.size, 0, none⟩ 1 1 [.int .u64 V] rfl rfl (cells_new _ _ _ _ rfl) (by simp [Value.oneCell']) (by unfold maxLen; omega) (by omega) hbs ?_; intro v3 w3 hown1 hgrow _ hblk)
                            obtain ⟨vo3, vc3, rfl, -⟩ := own_form hown1
                            have HN3 := Lib.hid (own_aside HNA.out hgrow AP3.out)
                            have HD3 : Hid (w3.ownsRow w.heap.size 25 1 (.slice dd2 nd2 dc2) nd2 (uV (D ++ doA A (A.take (i + 1))))) := by rw [HDSB.out]; exact own_aside HDA.out hgrow AP2.out
                            have HU3 : Hid (w3.ownsRow w.heap.size 25 1 (.slice vo3 (nu + 1) vc3) (nu + 1) (uV (upA A (A.take (i + 1))))) := by rw [HUSB.out, uV_snoc]; exact hown1
                            have HAP3 : Hid (Apart (.slice (some ⟨b0, o0, none⟩) na xc) (.slice dd2 nd2 dc2) ∧ Apart (.slice vo3 (nu + 1) vc3) (.slice dd2 nd2 dc2) ∧ Apart (.slice vo3 (nu + 1) vc3) (.slice (some ⟨b0, o0, none⟩) na xc)) := ⟨AP1.out, AP2.out.step hblk HDA.out.lt_size, AP3.out.step hblk HNA.out.lt_size⟩
                            have HL3 : Hid ((D ++ doA A (A.take (i + 1))).length = nd2 ∧ (upA A (A.take (i + 1))).length = nu + 1) := ⟨by rw [HDSB.out]; exact HLB.out.1, by rw [HUSB.out, List.length_append, HLB.out.2]; rfl⟩
                            have HJ3 := Lib.hid (below_append HJA.out hua hbs hgrow)
                            clear hown1 hgrow hblk hua hbs HJA HNA HDA HUSB HDSB HLB AP1 AP2 AP3
                            go_roundw
                            case rel => exact ⟨i + 1, nd2, nu + 1, dd2, vo3, dc2, vc3, by omega, by have := HSUM.out; omega, rfl, rfl, by go_num, HL3.out, HN3.out, HD3.out, HU3.out, HAP3.out, HJ3.out⟩
                            case measure => simp [intOf]; omega
                          | false =>
                            rw [if_neg (by decide)] at hus2 hds2
                            obtain ⟨b1, o1, e1, hb1, hc1⟩ := words_own HAD.out.1.symm HN10 (by rw [HAD.out.1]; omega)
                            cases e1
                            have c1 := hc1 i (by rw [HAD.out.1]; exact hlt)
                            rw [HUV.out] at c1
                            have hja := HJ9.out.alloc HJ9.out.size (.cells #[.int .u64 U] 25)
                            have hbs : w.heap.size ≤ (w9.alloc (.cells #[.int .u64 U] 25)).heap.size := hja.size
                            have hna := HN10.alloc (.cells #[.int .u64 U] 25)
                            have hda := HD10.alloc (.cells #[.int .u64 U] 25)
                            have hua := HU10.alloc (.cells #[.int .u64 U] 25)
                            have HJA := Lib.hid hja
                            have HNA := Lib.hid hna
                            have HUA := Lib.hid hua
                            have HUSB := Lib.hid hus2
                            have HDSB := Lib.hid hds2
                            have HLB := Lib.hid hln
                            have AP1 := Lib.hid ap1
                            have AP2 := Lib.hid ap2
                            have AP3 := Lib.hid ap3
                            clear hus2 hds2 hln HN10 HD10 HU10 HAPS hja hna hua ap1 ap2 ap3 HLN hc1
                            go_wp2_with (at_builtin; refine wpList_append_own_at _ rfl (.tmp 93) (.tmp 98) 22 rfl w.heap.size 25 i0 (.int .u64 0) 1 8 Tryz.underlying22 hi hz0 hz1 hz2 rfl (by decide) _ nd2 (uV (D ++ doA A (A.take i))) rfl hda ⟨w9.heap.size, 0, none⟩ 1 1 [.int .u64 U] rfl rfl (cells_new _ _ _ _ rfl) (by simp [Value.oneCell']) (by unfold maxLen; omega) (by omega) hbs ?_; intro v3 w3 hown1 hgrow _ hblk)
                            obtain ⟨vo3, vc3, rfl, -⟩ := own_form hown1
                            have HN3 := Lib.hid (own_aside HNA.out hgrow AP1.out.symm)
                            have HU3 : Hid (w3.ownsRow w.heap.size 25 1 (.slice uo nu uc) nu (uV (upA A (A.take (i + 1))))) := by rw [HUSB.out]; exact own_aside HUA.out hgrow AP2.out.symm
                            have HD3 : Hid (w3.ownsRow w.heap.size 25 1 (.slice vo3 (nd2 + 1) vc3) (nd2 + 1) (uV (D ++ doA A (A.take (i + 1))))) := by rw [HDSB.out, ← List.append_assoc, uV_snoc]; exact hown1
                            have HAP3 : Hid (Apart (.slice (some ⟨b0, o0, none⟩) na xc) (.slice vo3 (nd2 + 1) vc3) ∧ Apart (.slice uo nu uc) (.slice vo3 (nd2 + 1) vc3) ∧ Apart (.slice uo nu uc) (.slice (some ⟨b0, o0, none⟩) na xc)) := ⟨(AP1.out.symm.step hblk HNA.out.lt_size).symm, (AP2.out.symm.step hblk HUA.out.lt_size).symm, AP3.out⟩
                            have HL3 : Hid ((D ++ doA A (A.take (i + 1))).length = nd2 + 1 ∧ (upA A (A.take (i + 1))).length = nu) := ⟨by rw [HDSB.out, ← List.append_assoc, List.length_append, HLB.out.1]; rfl, by rw [HUSB.out]; exact HLB.out.2⟩
                            have HJ3 := Lib.hid (below_append HJA.out hda hbs hgrow)
                            clear hown1 hgrow hblk hda hbs HJA HNA HUA HUSB HDSB HLB AP1 AP2 AP3 c1
                            go_roundw
                            case rel => exact ⟨i + 1, nd2 + 1, nu, vo3, uo, vc3, uc, by omega, by have := HSUM.out; omega, rfl, rfl, by go_num, HL3.out, HN3.out, HD3.out, HU3.out, HAP3.out, HJ3.out⟩
                            case measure => simp [intOf]; omega
                    · obtain rfl : i = na := by omega
                      have p1 : decide ((i : Int) < (i : Int)) = false := decide_eq_false (by omega)
                      have hl := HLN.out
                      have hd := HDN.out
                      have hu := HUN.out
                      rw [HTE.out] at hl hd hu
                      obtain ⟨ap1, ap2, ap3⟩ := HAPS.out
                      have hset := rset_own uo uc (upA A A) wz (words_own hl.2.symm hu) (by rw [hl.2]; omega)
                      rw [hl.2, level_next] at hset
                      obtain ⟨nn, hnn⟩ : ∃ nn, (nextL A).length = nn := ⟨_, rfl⟩
                      have hle : nn ≤ nu := by rw [← hnn, ← level_next, ← hl.2]; exact setF_length _
                      have hpk : setF ((D ++ doA A A) ++ packN q' (nextL A)) = P := by
                        rw [List.append_assoc, level_done]; exact HAD.out.2.2.2.2
                      have HSET := Lib.hid hset
                      have HNN := Lib.hid hnn
                      have HREL : Hid ((nextL A).length = nn ∧ (D ++ doA A A).length = nd2 ∧ Sized q' (nextL A) ∧ Up (nextL A) ∧ setF ((D ++ doA A A) ++ packN q' (nextL A)) = P) := ⟨hnn, hl.1, next_sized HAD.out.2.2.1, setF_up _, hpk⟩
                      have HDZ := Lib.hid hd
                      have hDlt := hd.lt_size
                      have HDLT := Lib.hid hDlt
                      clear hset hnn hpk hl hd hu ap1 ap2 ap3 HLN HDN HUN HNO HAPS HEL HUS HDS HTE HHAS hDlt
                      go_wp2_with fail
                      refine HSET.out.mono ?_
                      rintro e w10 ⟨so, sc, rfl, ho10, hb10⟩
                      rw [HNN.out] at ho10
                      rw [HNN.out]
                      have HNW := Lib.hid (own_base ho10 hsj)
                      have HDW := Lib.hid (own_later HDZ.out hb10)
                      have HAW : Hid (Apart (.slice so nn sc) (.slice dd2 nd2 dc2)) := fun k h1 h2 => by
                        have := (ho10.lt k h1).1
                        have := HDLT.out k h2
                        omega
                      have HJW := Lib.hid (HJ.out.trans (hb10.mono hsj))
                      clear ho10 hb10 HJ HDZ HDLT HSET HNN
                      go_wp2
                      go_roundg q'
                      case measure => omega
                      case rel => exact ⟨q', nextL A, D ++ doA A A, nn, nd2, so, dd2, sc, dc2, Nat.le_refl _, by have := HSUM.out; omega, rfl, rfl, HREL.out, HNW.out, HDW.out, HAW.out, HJW.out⟩
end Go.Proofs.YtkjfdaleamonaaaGreat
/- Plain law: what the reference calls free is free. -/
namespace Go.Proofs.YtkjfdaleamonaaaGreat
open Go.RowKit Go.Lib Wd

theorem inB_iff {k j : Nat} {x y : E2} (hx : okB k x = true) (hy : okB j y = true) : inB (wordN k x) (wordN j y) = true ↔ j ≤ k ∧ upN (k - j) x = y := by
  obtain ⟨a1, a2, a3⟩ := word_cell hx
  obtain ⟨b1, b2, b3⟩ := word_cell hy
  unfold inB wiB
  rw [a1, b1]
  unfold cvR cvZ winB
  rw [if_pos a1, if_pos a1, if_pos b1, if_pos b1, a2, a3, b2, b3, hx, hy, show ((k : Int) - (j : Int)).toNat = k - j by omega]
  simp only [Bool.true_and, Bool.and_eq_true, decide_eq_true_eq]
  constructor
  · rintro ⟨h1, h2⟩; exact ⟨by omega, h2⟩
  · rintro ⟨h1, h2⟩; exact ⟨by omega, h2⟩
def freR (l : List Int) : Prop := (∀ i, i < l.length → isW (l.getD i 0).toNat = true) ∧ ∀ i k, i < l.length → k < l.length → k ≠ i → inB (l.getD i 0).toNat (l.getD k 0).toNat = false
theorem word_nat {v : Int} (h0 : 0 ≤ v) (h : isW v.toNat = true) : okB (rW v.toNat) (zW v.toNat) = true ∧ v = (wordN (rW v.toNat) (zW v.toNat) : Int) := by
  obtain ⟨a, b⟩ := cell_word h
  exact ⟨a, by omega⟩
theorem anc_in {v : Int} (h0 : 0 ≤ v) (h : isW v.toNat = true) {j : Nat} (hj : j < rW v.toNat) : inB v.toNat (ancW v j).toNat = true ∧ ancW v j ≠ v := by
  obtain ⟨o, e⟩ := word_nat h0 h
  have ea : ancW v j = (wordN j (upN (rW v.toNat - j) (zW v.toNat)) : Int) := rfl
  generalize rW v.toNat = q at *
  generalize zW v.toNat = z at *
  have oj : okB j (upN (q - j) z) = true := upN_ok _ (by rw [show j + (q - j) = q by omega]; exact o)
  rw [ea, e, Int.toNat_natCast, Int.toNat_natCast]
  refine ⟨(inB_iff o oj).2 ⟨by omega, rfl⟩, fun h2 => ?_⟩
  have h3 : j = q := (word_inj oj o (by omega)).1
  omega
theorem free_iff {l : List Int} (h64 : In64 l) : freeB l = true ↔ freR l := by
  have hpos : ∀ v ∈ l, 0 ≤ v := fun v hv => (h64 v hv).1
  constructor
  · intro h
    unfold freeB at h
    rw [Bool.and_eq_true, Bool.and_eq_true, decide_eq_true_eq] at h
    obtain ⟨⟨hw, hn⟩, ha⟩ := h
    have hw := List.all_eq_true.1 hw
    refine ⟨fun i hi => hw _ (getD_mem hi), fun i k hi hk hne => ?_⟩
    have mi := getD_mem (l := l) hi
    have mk := getD_mem (l := l) hk
    obtain ⟨oi, ei⟩ := word_nat (hpos _ mi) (hw _ mi)
    obtain ⟨ok, ek⟩ := word_nat (hpos _ mk) (hw _ mk)
    rw [← Bool.not_eq_true]
    intro hin
    have e1 : (l.getD i 0).toNat = wordN (rW (l.getD i 0).toNat) (zW (l.getD i 0).toNat) := by omega
    have e2 : (l.getD k 0).toNat = wordN (rW (l.getD k 0).toNat) (zW (l.getD k 0).toNat) := by omega
    rw [e1, e2, inB_iff oi ok] at hin
    obtain ⟨h1, h2⟩ := hin
    by_cases hlt : rW (l.getD k 0).toNat < rW (l.getD i 0).toNat
    · have h3 := List.all_eq_true.1 (List.all_eq_true.1 ha _ mi) _ (List.mem_range.2 hlt)
      have h4 : ancW (l.getD i 0) (rW (l.getD k 0).toNat) = l.getD k 0 := by
        unfold ancW
        rw [h2]; exact ek.symm
      rw [h4, List.contains_iff_mem.2 mk] at h3
      cases h3
    · have h5 : rW (l.getD k 0).toNat = rW (l.getD i 0).toNat := by omega
      rw [h5, Nat.sub_self] at h2
      have h7 : zW (l.getD i 0).toNat = zW (l.getD k 0).toNat := h2
      have h6 : l.getD i 0 = l.getD k 0 := by
        have h8 : (wordN (rW (l.getD i 0).toNat) (zW (l.getD i 0).toNat) : Int) = (wordN (rW (l.getD k 0).toNat) (zW (l.getD k 0).toNat) : Int) := by rw [h7, h5]
        exact ei.trans (h8.trans ek.symm)
      rw [List.getD_eq_getElem?_getD, List.getD_eq_getElem?_getD, List.getElem?_eq_getElem hi, List.getElem?_eq_getElem hk, Option.getD_some, Option.getD_some] at h6
      have hp := List.pairwise_iff_getElem.1 (List.nodup_iff_pairwise_ne.1 hn)
      rcases Nat.lt_or_ge i k with h | h
      · exact hp i k hi hk h h6
      · exact hp k i hk hi (by omega) h6.symm
  · rintro ⟨hw, hin⟩
    have hall : ∀ v ∈ l, isW v.toNat = true := fun v hv => by
      obtain ⟨i, hi, rfl⟩ := List.getElem_of_mem hv
      have := hw i hi
      rwa [List.getD_eq_getElem?_getD, List.getElem?_eq_getElem hi, Option.getD_some] at this
    have hself : ∀ v ∈ l, inB v.toNat v.toNat = true := fun v hv => by
      obtain ⟨o, e⟩ := word_nat (hpos v hv) (hall v hv)
      have e1 : v.toNat = wordN (rW v.toNat) (zW v.toNat) := by omega
      have h3 := (inB_iff o o).2 ⟨Nat.le_refl _, by rw [Nat.sub_self]; rfl⟩
      rw [← e1] at h3
      exact h3
    unfold freeB
    rw [Bool.and_eq_true, Bool.and_eq_true, decide_eq_true_eq]
    refine ⟨⟨List.all_eq_true.2 hall, ?_⟩, ?_⟩
    · refine List.nodup_iff_pairwise_ne.2 (List.pairwise_iff_getElem.2 fun i k hi hk hik e => ?_)
      have h1 := hin i k hi hk (by omega)
      rw [List.getD_eq_getElem?_getD, List.getD_eq_getElem?_getD, List.getElem?_eq_getElem hi, List.getElem?_eq_getElem hk, Option.getD_some, Option.getD_some, ← e, hself _ (List.getElem_mem hi)] at h1
      cases h1
    · rw [List.all_eq_true]
      intro v hv
      rw [List.all_eq_true]
      intro j hj
      have hj := List.mem_range.1 hj
      have : ancW v j ∉ l := fun hm => by
        obtain ⟨i, hi, ei⟩ := List.getElem_of_mem hv
        obtain ⟨k, hk, ek⟩ := List.getElem_of_mem hm
        obtain ⟨h2, h4⟩ := anc_in (hpos v hv) (hall v hv) hj
        have hne : k ≠ i := fun h => by
          subst h
          exact h4 (ek.symm.trans ei)
        have h1 := hin i k hi hk hne
        rw [List.getD_eq_getElem?_getD, List.getD_eq_getElem?_getD, List.getElem?_eq_getElem hi, List.getElem?_eq_getElem hk, Option.getD_some, Option.getD_some, ei, ek] at h1
        rw [h2] at h1
        cases h1
      simpa using this
end Go.Proofs.YtkjfdaleamonaaaGreat
/- Contract of apiaryref1.Free. -/
namespace Go.Proofs.YtkjfdaleamonaaaGreat
open Go.RowKit Go.Lib Wd

set_option maxRecDepth 100000 in
set_option maxHeartbeats 8000000 in
theorem rfree_any (ao : Option Addr) (c : Nat) (l : List Int) (w : World) (B : Nat) (h : WordsAt w B ao l) (hB : B ≤ w.heap.size) (hn : l.length ≤ 1000000) (h64 : In64 l) :
    Calls Tryz.prog 35 #[.slice ao l.length c] w fun e w' => e = .returned (.bool (freeB l)) ∧ Below w.heap.size w w' := by
  obtain ⟨n, hnn⟩ : ∃ n, l.length = n := ⟨_, rfl⟩
  have HN := Lib.hid hnn
  have HW := Lib.hid h
  have HV : Hid (∀ k, k < n → ∃ u : Nat, l.getD k 0 = u ∧ u < 18446744073709551616) := fun k hk => by
    have := h64 _ (getD_mem (j := k) (l := l) (by omega))
    exact ⟨(l.getD k 0).toNat, by omega, by omega⟩
  have HISW : Hid (∀ u : Nat, u < 18446744073709551616 → ∀ w, _) := isw_any
  have HT : Hid ((∀ i, i < n → isW (l.getD i 0).toNat = true ∧ ∀ k, k < n → k ≠ i → inB (l.getD i 0).toNat (l.getD k 0).toNat = false) → freeB l = true) := fun hh => (free_iff h64).2 ⟨fun i hi => (hh i (by omega)).1, fun i k hi hk hne => (hh i (by omega)).2 k (by omega) hne⟩
  have HF1 : Hid (∀ i, i < n → isW (l.getD i 0).toNat = false → freeB l = false) := fun i hi hw => by
    rw [← Bool.not_eq_true]
    intro hf
    rw [((free_iff h64).1 hf).1 i (by omega)] at hw
    cases hw
  have HF2 : Hid (∀ i k, i < n → k < n → k ≠ i → inB (l.getD i 0).toNat (l.getD k 0).toNat = true → freeB l = false) := fun i k hi hk hne hw => by
    rw [← Bool.not_eq_true]
    intro hf
    rw [((free_iff h64).1 hf).2 i k (by omega) (by omega) hne] at hw
    cases hw
  rw [hnn] at hn ⊢
  generalize freeB l = o at *
  clear hnn h h64
  go_enter Tryz.func35, Tryz.ntmps35
  go_wp2
  go_loopw [3] (fun iv wr => ∃ (i : Nat), i ≤ n ∧ iv = .int .i64 i ∧ Hid (∀ a, a < i → isW (l.getD a 0).toNat = true ∧ ∀ k, k < n → k ≠ a → inB (l.getD a 0).toNat (l.getD k 0).toNat = false) ∧ Hid (Below w.heap.size w wr)) (fun i _ => n - (intOf i).toNat)
  case atStart => exact ⟨0, by omega, rfl, fun j hj => by omega, Below.refl _ _⟩
  case round =>
    obtain ⟨i, hi, rfl, HA, HI⟩ := hrel
    obtain ⟨wo, rfl⟩ : ∃ wo, wo = wr := ⟨_, rfl⟩
    have hsz := HI.out.size
    by_cases hlt : i < n
    · obtain ⟨g, off, rfl, hg, hc⟩ := HW.out (by rw [HN.out]; omega)
      have HC : Hid (∀ k, k < n → ∀ wx, Below w.heap.size w wx → wx.cell? ⟨g, off + k, none⟩ = some (.int .u64 (l.getD k 0)) ∧ g < wx.heap.size) := fun k hk wx hx => ⟨(hx.cell (p := ⟨g, off + k, none⟩) (Nat.lt_of_lt_of_le hg hB)).trans (hc k (by rw [HN.out]; exact hk)), Nat.lt_of_lt_of_le (Nat.lt_of_lt_of_le hg hB) hx.size⟩
      obtain ⟨c0, hgo⟩ := HC.out i hlt wo HI.out
      obtain ⟨u, hu, hu2⟩ := HV.out i hlt
      rw [hu] at c0
      have HIW := Lib.hid (HISW.out u hu2)
      have q1 : decide ((i : Int) < (n : Int)) = true := decide_eq_true (by omega)
      have HU := Lib.hid hu
      clear hc hg hu
      cases hiw : isW u with
      | false =>
        have HO : Hid (o = false) := HF1.out i hlt (by rw [HU.out, Int.toNat_natCast, hiw])
        rw [hiw] at HIW
        clear hiw
        go_wp2_with fail
        refine (HIW.out _).mono ?_
        rintro e w2 ⟨rfl, hb2⟩
        have HB2 := Lib.hid (HI.out.trans (hb2.mono hsz))
        clear hb2
        go_wp2
        go_ret
        exact ⟨by rw [HO.out]; rfl, HB2.out⟩
      | true =>
        rw [hiw] at HIW
        have HWI := Lib.hid hiw
        clear hiw
        go_wp2_with fail
        refine (HIW.out _).mono ?_
        rintro e w2 ⟨rfl, hb2⟩
        have HB2 := Lib.hid (HI.out.trans (hb2.mono hsz))
        clear hb2 c0 hgo HI hsz HIW
        go_wp2
        go_loopw [4] (fun kv wz => ∃ (k : Nat), k ≤ n ∧ kv = .int .i64 k ∧ Hid (∀ b, b < k → b ≠ i → inB u (l.getD b 0).toNat = false) ∧ Hid (Below w.heap.size w wz)) (fun k _ => n - (intOf k).toNat)
        case atStart => exact ⟨0, by omega, rfl, fun j hj => by omega, HB2.out⟩
        case round =>
          obtain ⟨k, hk, rfl, HK, HI⟩ := hrel
          obtain ⟨wz, rfl⟩ : ∃ wz, wz = wr := ⟨_, rfl⟩
          have hsz := HI.out.size
          by_cases hlt2 : k < n
          · have q2 : decide ((k : Int) < (n : Int)) = true := decide_eq_true (by omega)
            by_cases hne : k = i
            · have p1 : ((k : Int) != (i : Int)) = false := by simp [hne]
              have p1n : (k != i) = false := by simp [hne]
              have HK2 : Hid (∀ b, b < k + 1 → b ≠ i → inB u (l.getD b 0).toNat = false) := fun b hb hbi => HK.out b (by omega) hbi
              clear hne
              go_upto_region 9 with (fail)
              refine wp_region_inv (fun w w' => Below w.heap.size w w') (fun qi_ qv_ _ => qv_ = ([.int .i64 k, .int .i64 i, .bool false, .bool false, undef, undef, undef, undef, undef, undef, undef, undef, undef, .bool false] : List Value).getD qi_ undef) (by kernel_rfl) (by kernel_rfl) (fun _ => Below.refl _ _) (fun _ _ _ h1 h2 => below_later h1 h1.size h2) (fun _ _ _ _ _ _ h => h) ?_
              refine inv_cons (fun wx hg hd => ?_) (fun v0 => ?_)
              · have hx := ((Below.refl wz.heap.size wz).drew).trans hg
                clear hd hg
                go_wp2
                exact ⟨_, rfl, Below.refl _ _, rfl⟩
              (try simp only [List.nil_append, Act.put, List.setIfInBounds_toArray, List.set_cons_zero, List.set_cons_succ])
              refine inv_cons (fun wx hg hd => ?_) (fun v1 => ?_)
              · have hx := ((Below.refl wz.heap.size wz).drew).trans hg
                clear hd hg
                go_wp2
                exact ⟨_, rfl, Below.refl _ _, rfl⟩
              (try simp only [List.cons_append, List.nil_append, Act.put, List.setIfInBounds_toArray, List.set_cons_zero, List.set_cons_succ])
              refine inv_cons (fun wx hg hd => ?_) (fun v2 => ?_)
              · have hx := ((Below.refl wz.heap.size wz).drew).trans hg
                (try (have ee : v0 = (.int .i64 k : Value) := hd 0 (by simp) (by decide); subst ee))
                (try (have ee : v1 = (.int .i64 i : Value) := hd 1 (by simp) (by decide); subst ee))
                clear hd hg
                go_wp2
                exact ⟨_, rfl, Below.refl _ _, rfl⟩
              (try simp only [List.cons_append, List.nil_append, Act.put, List.setIfInBounds_toArray, List.set_cons_zero, List.set_cons_succ])
              refine inv_cons (fun wx hg hd => ?_) (fun v3 => ?_)
              · have hx := ((Below.refl wz.heap.size wz).drew).trans hg
                (try (have ee : v2 = (.bool false : Value) := hd 2 (by simp) (by decide); subst ee))
                clear hd hg
                go_wp2
                exact ⟨_, rfl, Below.refl _ _, rfl⟩
              (try simp only [List.cons_append, List.nil_append, Act.put, List.setIfInBounds_toArray, List.set_cons_zero, List.set_cons_succ])
              refine inv_cons (fun wx hg hd => ?_) (fun v4 => ?_)
              · have hx := ((Below.refl wz.heap.size wz).drew).trans hg
                (try (have ee : v3 = (.bool false : Value) := hd 3 (by simp) (by decide); subst ee))
                clear hd hg
                go_wp2
                exact ⟨_, rfl, Below.refl _ _, rfl⟩
              (try simp only [List.cons_append, List.nil_append, Act.put, List.setIfInBounds_toArray, List.set_cons_zero, List.set_cons_succ])
              refine inv_cons (fun wx hg hd => ?_) (fun v5 => ?_)
              · have hx := ((Below.refl wz.heap.size wz).drew).trans hg
                (try (have ee : v3 = (.bool false : Value) := hd 3 (by simp) (by decide); subst ee))
                clear hd hg
                go_wp2
                exact ⟨_, rfl, Below.refl _ _, rfl⟩
              (try simp only [List.cons_append, List.nil_append, Act.put, List.setIfInBounds_toArray, List.set_cons_zero, List.set_cons_succ])
              refine inv_cons (fun wx hg hd => ?_) (fun v6 => ?_)
              · have hx := ((Below.refl wz.heap.size wz).drew).trans hg
                (try (have ee : v3 = (.bool false : Value) := hd 3 (by simp) (by decide); subst ee))
                (try (have ee : v4 = (undef : Value) := hd 4 (by simp) (by decide); subst ee))
                (try (have ee : v5 = (undef : Value) := hd 5 (by simp) (by decide); subst ee))
                clear hd hg
                go_wp2
                exact ⟨_, rfl, Below.refl _ _, rfl⟩
              (try simp only [List.cons_append, List.nil_append, Act.put, List.setIfInBounds_toArray, List.set_cons_zero, List.set_cons_succ])
              refine inv_cons (fun wx hg hd => ?_) (fun v7 => ?_)
              · have hx := ((Below.refl wz.heap.size wz).drew).trans hg
                (try (have ee : v3 = (.bool false : Value) := hd 3 (by simp) (by decide); subst ee))
                (try (have ee : v6 = (undef : Value) := hd 6 (by simp) (by decide); subst ee))
                clear hd hg
                go_wp2
                exact ⟨_, rfl, Below.refl _ _, rfl⟩
              (try simp only [List.cons_append, List.nil_append, Act.put, List.setIfInBounds_toArray, List.set_cons_zero, List.set_cons_succ])
              refine inv_cons (fun wx hg hd => ?_) (fun v8 => ?_)
              · have hx := ((Below.refl wz.heap.size wz).drew).trans hg
                (try (have ee : v3 = (.bool false : Value) := hd 3 (by simp) (by decide); subst ee))
                clear hd hg
                go_wp2
                exact ⟨_, rfl, Below.refl _ _, rfl⟩
              (try simp only [List.cons_append, List.nil_append, Act.put, List.setIfInBounds_toArray, List.set_cons_zero, List.set_cons_succ])
              refine inv_cons (fun wx hg hd => ?_) (fun v9 => ?_)
              · have hx := ((Below.refl wz.heap.size wz).drew).trans hg
                (try (have ee : v3 = (.bool false : Value) := hd 3 (by simp) (by decide); subst ee))
                clear hd hg
                go_wp2
                exact ⟨_, rfl, Below.refl _ _, rfl⟩
              (try simp only [List.cons_append, List.nil_append, Act.put, List.setIfInBounds_toArray, List.set_cons_zero, List.set_cons_succ])
              refine inv_cons (fun wx hg hd => ?_) (fun v10 => ?_)
              · have hx := ((Below.refl wz.heap.size wz).drew).trans hg
                (try (have ee : v3 = (.bool false : Value) := hd 3 (by simp) (by decide); subst ee))
                (try (have ee : v8 = (undef : Value) := hd 8 (by simp) (by decide); subst ee))
                (try (have ee : v9 = (undef : Value) := hd 9 (by simp) (by decide); subst ee))
                clear hd hg
                go_wp2
                exact ⟨_, rfl, Below.refl _ _, rfl⟩
              (try simp only [List.cons_append, List.nil_append, Act.put, List.setIfInBounds_toArray, List.set_cons_zero, List.set_cons_succ])
              refine inv_cons (fun wx hg hd => ?_) (fun v11 => ?_)
              · have hx := ((Below.refl wz.heap.size wz).drew).trans hg
                (try (have ee : v3 = (.bool false : Value) := hd 3 (by simp) (by decide); subst ee))
                (try (have ee : v10 = (undef : Value) := hd 10 (by simp) (by decide); subst ee))
                clear hd hg
                go_wp2
                exact ⟨_, rfl, Below.refl _ _, rfl⟩
              (try simp only [List.cons_append, List.nil_append, Act.put, List.setIfInBounds_toArray, List.set_cons_zero, List.set_cons_succ])
              refine inv_cons (fun wx hg hd => ?_) (fun v12 => ?_)
              · have hx := ((Below.refl wz.heap.size wz).drew).trans hg
                (try (have ee : v3 = (.bool false : Value) := hd 3 (by simp) (by decide); subst ee))
                (try (have ee : v7 = (undef : Value) := hd 7 (by simp) (by decide); subst ee))
                (try (have ee : v11 = (undef : Value) := hd 11 (by simp) (by decide); subst ee))
                clear hd hg
                go_wp2
                exact ⟨_, rfl, Below.refl _ _, rfl⟩
              (try simp only [List.cons_append, List.nil_append, Act.put, List.setIfInBounds_toArray, List.set_cons_zero, List.set_cons_succ])
              refine inv_cons (fun wx hg hd => ?_) (fun v13 => ?_)
              · have hx := ((Below.refl wz.heap.size wz).drew).trans hg
                (try (have ee : v3 = (.bool false : Value) := hd 3 (by simp) (by decide); subst ee))
                (try (have ee : v12 = (undef : Value) := hd 12 (by simp) (by decide); subst ee))
                clear hd hg
                go_wp2
                exact ⟨_, rfl, Below.refl _ _, rfl⟩
              (try simp only [List.cons_append, List.nil_append, Act.put, List.setIfInBounds_toArray, List.set_cons_zero, List.set_cons_succ])
              refine inv_done (fun wx hg hd => ?_)
              have hx := ((Below.refl wz.heap.size wz).drew).trans hg
              (have ee : v0 = (.int .i64 k : Value) := hd 0 (by simp); subst ee)
              (have ee : v1 = (.int .i64 i : Value) := hd 1 (by simp); subst ee)
              (have ee : v2 = (.bool false : Value) := hd 2 (by simp); subst ee)
              (have ee : v3 = (.bool false : Value) := hd 3 (by simp); subst ee)
              (have ee : v4 = (undef : Value) := hd 4 (by simp); subst ee)
              (have ee : v5 = (undef : Value) := hd 5 (by simp); subst ee)
              (have ee : v6 = (undef : Value) := hd 6 (by simp); subst ee)
              (have ee : v7 = (undef : Value) := hd 7 (by simp); subst ee)
              (have ee : v8 = (undef : Value) := hd 8 (by simp); subst ee)
              (have ee : v9 = (undef : Value) := hd 9 (by simp); subst ee)
              (have ee : v10 = (undef : Value) := hd 10 (by simp); subst ee)
              (have ee : v11 = (undef : Value) := hd 11 (by simp); subst ee)
              (have ee : v12 = (undef : Value) := hd 12 (by simp); subst ee)
              (have ee : v13 = (.bool false : Value) := hd 13 (by simp); subst ee)
              clear hd hg
              (try go_simp)
              have HI2 := Lib.hid (HI.out.trans (hx.mono hsz))
              clear hx HI
              go_wp2
              go_roundw
              case rel => exact ⟨k + 1, by omega, by go_num, HK2.out, HI2.out⟩
              case measure => simp [intOf]; omega
            · have p1 : ((k : Int) != (i : Int)) = true := by simp; omega
              have p1n : (k != i) = true := by simp; omega
              obtain ⟨u2, hu2', hu22⟩ := HV.out k hlt2
              have HCI := Lib.hid (HC.out i hlt)
              have HCK := Lib.hid (HC.out k hlt2)
              rw [HU.out] at HCI
              rw [hu2'] at HCK
              have HWN := Lib.hid (wordin_any u u2 hu2 hu22)
              have HU2 := Lib.hid hu2'
              have hil : (i : Int) < (n : Int) := by omega
              clear hu2'
              cases hin : inB u u2 with
              | true =>
                have HO : Hid (o = false) := HF2.out i k hlt hlt2 hne (by rw [HU.out, HU2.out, Int.toNat_natCast, Int.toNat_natCast, hin])
                rw [hin] at HWN
                clear hin hne
                go_upto_region 9 with (fail)
                refine wp_region_inv (fun w w' => Below w.heap.size w w') (fun qi_ qv_ _ => qv_ = ([.int .i64 k, .int .i64 i, .bool true, .bool true, .slice (some ⟨g, off, none⟩) n c, .int .i64 i, .pointer (some ⟨g, off + i, none⟩), .int .u64 u, .slice (some ⟨g, off, none⟩) n c, .int .i64 k, .pointer (some ⟨g, off + k, none⟩), .int .u64 u2, .bool true, .bool true] : List Value).getD qi_ undef) (by kernel_rfl) (by kernel_rfl) (fun _ => Below.refl _ _) (fun _ _ _ h1 h2 => below_later h1 h1.size h2) (fun _ _ _ _ _ _ h => h) ?_
                refine inv_cons (fun wx hg hd => ?_) (fun v0 => ?_)
                · have hx := ((Below.refl wz.heap.size wz).drew).trans hg
                  clear hd hg
                  go_wp2
                  exact ⟨_, rfl, Below.refl _ _, rfl⟩
                (try simp only [List.nil_append, Act.put, List.setIfInBounds_toArray, List.set_cons_zero, List.set_cons_succ])
                refine inv_cons (fun wx hg hd => ?_) (fun v1 => ?_)
                · have hx := ((Below.refl wz.heap.size wz).drew).trans hg
                  clear hd hg
                  go_wp2
                  exact ⟨_, rfl, Below.refl _ _, rfl⟩
                (try simp only [List.cons_append, List.nil_append, Act.put, List.setIfInBounds_toArray, List.set_cons_zero, List.set_cons_succ])
                refine inv_cons (fun wx hg hd => ?_) (fun v2 => ?_)
                · have hx := ((Below.refl wz.heap.size wz).drew).trans hg
                  (try (have ee : v0 = (.int .i64 k : Value) := hd 0 (by simp) (by decide); subst ee))
                  (try (have ee : v1 = (.int .i64 i : Value) := hd 1 (by simp) (by decide); subst ee))
                  clear hd hg
                  go_wp2
                  exact ⟨_, rfl, Below.refl _ _, rfl⟩
                (try simp only [List.cons_append, List.nil_append, Act.put, List.setIfInBounds_toArray, List.set_cons_zero, List.set_cons_succ])
                refine inv_cons (fun wx hg hd => ?_) (fun v3 => ?_)
                · have hx := ((Below.refl wz.heap.size wz).drew).trans hg
                  (try (have ee : v2 = (.bool true : Value) := hd 2 (by simp) (by decide); subst ee))
                  clear hd hg
                  go_wp2
                  exact ⟨_, rfl, Below.refl _ _, rfl⟩
                (try simp only [List.cons_append, List.nil_append, Act.put, List.setIfInBounds_toArray, List.set_cons_zero, List.set_cons_succ])
                refine inv_cons (fun wx hg hd => ?_) (fun v4 => ?_)
                · have hx := ((Below.refl wz.heap.size wz).drew).trans hg
                  (try (have ee : v3 = (.bool true : Value) := hd 3 (by simp) (by decide); subst ee))
                  clear hd hg
                  go_wp2
                  exact ⟨_, rfl, Below.refl _ _, rfl⟩
                (try simp only [List.cons_append, List.nil_append, Act.put, List.setIfInBounds_toArray, List.set_cons_zero, List.set_cons_succ])
                refine inv_cons (fun wx hg hd => ?_) (fun v5 => ?_)
                · have hx := ((Below.refl wz.heap.size wz).drew).trans hg
                  (try (have ee : v3 = (.bool true : Value) := hd 3 (by simp) (by decide); subst ee))
                  clear hd hg
                  go_wp2
                  exact ⟨_, rfl, Below.refl _ _, rfl⟩
                (try simp only [List.cons_append, List.nil_append, Act.put, List.setIfInBounds_toArray, List.set_cons_zero, List.set_cons_succ])
                refine inv_cons (fun wx hg hd => ?_) (fun v6 => ?_)
                · have hx := ((Below.refl wz.heap.size wz).drew).trans hg
                  (try (have ee : v3 = (.bool true : Value) := hd 3 (by simp) (by decide); subst ee))
                  (try (have ee : v4 = (.slice (some ⟨g, off, none⟩) n c : Value) := hd 4 (by simp) (by decide); subst ee))
                  (try (have ee : v5 = (.int .i64 i : Value) := hd 5 (by simp) (by decide); subst ee))
                  clear hd hg
                  go_wp2
                  exact ⟨_, rfl, Below.refl _ _, rfl⟩
                (try simp only [List.cons_append, List.nil_append, Act.put, List.setIfInBounds_toArray, List.set_cons_zero, List.set_cons_succ])
                refine inv_cons (fun wx hg hd => ?_) (fun v7 => ?_)
                · have hx := ((Below.refl wz.heap.size wz).drew).trans hg
                  (try (have ee : v3 = (.bool true : Value) := hd 3 (by simp) (by decide); subst ee))
                  (try (have ee : v6 = (.pointer (some ⟨g, off + i, none⟩) : Value) := hd 6 (by simp) (by decide); subst ee))
                  clear hd hg
                  obtain ⟨x0, x1⟩ := HCI.out _ (HI.out.trans (hx.mono hsz))
                  go_wp2
                  exact ⟨_, rfl, Below.refl _ _, rfl⟩
                (try simp only [List.cons_append, List.nil_append, Act.put, List.setIfInBounds_toArray, List.set_cons_zero, List.set_cons_succ])
                refine inv_cons (fun wx hg hd => ?_) (fun v8 => ?_)
                · have hx := ((Below.refl wz.heap.size wz).drew).trans hg
                  (try (have ee : v3 = (.bool true : Value) := hd 3 (by simp) (by decide); subst ee))
                  clear hd hg
                  go_wp2
                  exact ⟨_, rfl, Below.refl _ _, rfl⟩
                (try simp only [List.cons_append, List.nil_append, Act.put, List.setIfInBounds_toArray, List.set_cons_zero, List.set_cons_succ])
                refine inv_cons (fun wx hg hd => ?_) (fun v9 => ?_)
                · have hx := ((Below.refl wz.heap.size wz).drew).trans hg
                  (try (have ee : v3 = (.bool true : Value) := hd 3 (by simp) (by decide); subst ee))
                  clear hd hg
                  go_wp2
                  exact ⟨_, rfl, Below.refl _ _, rfl⟩
                (try simp only [List.cons_append, List.nil_append, Act.put, List.setIfInBounds_toArray, List.set_cons_zero, List.set_cons_succ])
                refine inv_cons (fun wx hg hd => ?_) (fun v10 => ?_)
                · have hx := ((Below.refl wz.heap.size wz).drew).trans hg
                  (try (have ee : v3 = (.bool true : Value) := hd 3 (by simp) (by decide); subst ee))
                  (try (have ee : v8 = (.slice (some ⟨g, off, none⟩) n c : Value) := hd 8 (by simp) (by decide); subst ee))
                  (try (have ee : v9 = (.int .i64 k : Value) := hd 9 (by simp) (by decide); subst ee))
                  clear hd hg
                  go_wp2
                  exact ⟨_, rfl, Below.refl _ _, rfl⟩
                (try simp only [List.cons_append, List.nil_append, Act.put, List.setIfInBounds_toArray, List.set_cons_zero, List.set_cons_succ])
                refine inv_cons (fun wx hg hd => ?_) (fun v11 => ?_)
                · have hx := ((Below.refl wz.heap.size wz).drew).trans hg
                  (try (have ee : v3 = (.bool true : Value) := hd 3 (by simp) (by decide); subst ee))
                  (try (have ee : v10 = (.pointer (some ⟨g, off + k, none⟩) : Value) := hd 10 (by simp) (by decide); subst ee))
                  clear hd hg
                  obtain ⟨x0, x1⟩ := HCK.out _ (HI.out.trans (hx.mono hsz))
                  go_wp2
                  exact ⟨_, rfl, Below.refl _ _, rfl⟩
                (try simp only [List.cons_append, List.nil_append, Act.put, List.setIfInBounds_toArray, List.set_cons_zero, List.set_cons_succ])
                refine inv_cons (fun wx hg hd => ?_) (fun v12 => ?_)
                · have hx := ((Below.refl wz.heap.size wz).drew).trans hg
                  (try (have ee : v3 = (.bool true : Value) := hd 3 (by simp) (by decide); subst ee))
                  (try (have ee : v7 = (.int .u64 u : Value) := hd 7 (by simp) (by decide); subst ee))
                  (try (have ee : v11 = (.int .u64 u2 : Value) := hd 11 (by simp) (by decide); subst ee))
                  clear hd hg
                  go_wp2_with fail
                  refine (HWN.out _).mono ?_
                  rintro e w' ⟨rfl, hb⟩
                  go_wp2
                  exact ⟨_, rfl, hb, rfl⟩
                (try simp only [List.cons_append, List.nil_append, Act.put, List.setIfInBounds_toArray, List.set_cons_zero, List.set_cons_succ])
                refine inv_cons (fun wx hg hd => ?_) (fun v13 => ?_)
                · have hx := ((Below.refl wz.heap.size wz).drew).trans hg
                  (try (have ee : v3 = (.bool true : Value) := hd 3 (by simp) (by decide); subst ee))
                  (try (have ee : v12 = (.bool true : Value) := hd 12 (by simp) (by decide); subst ee))
                  clear hd hg
                  go_wp2
                  exact ⟨_, rfl, Below.refl _ _, rfl⟩
                (try simp only [List.cons_append, List.nil_append, Act.put, List.setIfInBounds_toArray, List.set_cons_zero, List.set_cons_succ])
                refine inv_done (fun wx hg hd => ?_)
                have hx := ((Below.refl wz.heap.size wz).drew).trans hg
                (have ee : v0 = (.int .i64 k : Value) := hd 0 (by simp); subst ee)
                (have ee : v1 = (.int .i64 i : Value) := hd 1 (by simp); subst ee)
                (have ee : v2 = (.bool true : Value) := hd 2 (by simp); subst ee)
                (have ee : v3 = (.bool true : Value) := hd 3 (by simp); subst ee)
                (have ee : v4 = (.slice (some ⟨g, off, none⟩) n c : Value) := hd 4 (by simp); subst ee)
                (have ee : v5 = (.int .i64 i : Value) := hd 5 (by simp); subst ee)
                (have ee : v6 = (.pointer (some ⟨g, off + i, none⟩) : Value) := hd 6 (by simp); subst ee)
                (have ee : v7 = (.int .u64 u : Value) := hd 7 (by simp); subst ee)
                (have ee : v8 = (.slice (some ⟨g, off, none⟩) n c : Value) := hd 8 (by simp); subst ee)
                (have ee : v9 = (.int .i64 k : Value) := hd 9 (by simp); subst ee)
                (have ee : v10 = (.pointer (some ⟨g, off + k, none⟩) : Value) := hd 10 (by simp); subst ee)
                (have ee : v11 = (.int .u64 u2 : Value) := hd 11 (by simp); subst ee)
                (have ee : v12 = (.bool true : Value) := hd 12 (by simp); subst ee)
                (have ee : v13 = (.bool true : Value) := hd 13 (by simp); subst ee)
                clear hd hg
                (try go_simp)
                have HI2 := Lib.hid (HI.out.trans (hx.mono hsz))
                clear hx HI
                go_wp2
                go_ret
                exact ⟨by rw [HO.out]; rfl, HI2.out⟩
              | false =>
                have HK2 : Hid (∀ b, b < k + 1 → b ≠ i → inB u (l.getD b 0).toNat = false) := fun b hb hbi => by
                  by_cases e : b = k
                  · rw [e, HU2.out, Int.toNat_natCast, hin]
                  · exact HK.out b (by omega) hbi
                rw [hin] at HWN
                clear hin hne
                go_upto_region 9 with (fail)
                refine wp_region_inv (fun w w' => Below w.heap.size w w') (fun qi_ qv_ _ => qv_ = ([.int .i64 k, .int .i64 i, .bool true, .bool true, .slice (some ⟨g, off, none⟩) n c, .int .i64 i, .pointer (some ⟨g, off + i, none⟩), .int .u64 u, .slice (some ⟨g, off, none⟩) n c, .int .i64 k, .pointer (some ⟨g, off + k, none⟩), .int .u64 u2, .bool false, .bool false] : List Value).getD qi_ undef) (by kernel_rfl) (by kernel_rfl) (fun _ => Below.refl _ _) (fun _ _ _ h1 h2 => below_later h1 h1.size h2) (fun _ _ _ _ _ _ h => h) ?_
                refine inv_cons (fun wx hg hd => ?_) (fun v0 => ?_)
                · have hx := ((Below.refl wz.heap.size wz).drew).trans hg
                  clear hd hg
                  go_wp2
                  exact ⟨_, rfl, Below.refl _ _, rfl⟩
                (try simp only [List.nil_append, Act.put, List.setIfInBounds_toArray, List.set_cons_zero, List.set_cons_succ])
                refine inv_cons (fun wx hg hd => ?_) (fun v1 => ?_)
                · have hx := ((Below.refl wz.heap.size wz).drew).trans hg
                  clear hd hg
                  go_wp2
                  exact ⟨_, rfl, Below.refl _ _, rfl⟩
                (try simp only [List.cons_append, List.nil_append, Act.put, List.setIfInBounds_toArray, List.set_cons_zero, List.set_cons_succ])
                refine inv_cons (fun wx hg hd => ?_) (fun v2 => ?_)
                · have hx := ((Below.refl wz.heap.size wz).drew).trans hg
                  (try (have ee : v0 = (.int .i64 k : Value) := hd 0 (by simp) (by decide); subst ee))
                  (try (have ee : v1 = (.int .i64 i : Value) := hd 1 (by simp) (by decide); subst ee))
                  clear hd hg
                  go_wp2
                  exact ⟨_, rfl, Below.refl _ _, rfl⟩
                (try simp only [List.cons_append, List.nil_append, Act.put, List.setIfInBounds_toArray, List.set_cons_zero, List.set_cons_succ])
                refine inv_cons (fun wx hg hd => ?_) (fun v3 => ?_)
                · have hx := ((Below.refl wz.heap.size wz).drew).trans hg
                  (try (have ee : v2 = (.bool true : Value) := hd 2 (by simp) (by decide); subst ee))
                  clear hd hg
                  go_wp2
                  exact ⟨_, rfl, Below.refl _ _, rfl⟩
                (try simp only [List.cons_append, List.nil_append, Act.put, List.setIfInBounds_toArray, List.set_cons_zero, List.set_cons_succ])
                refine inv_cons (fun wx hg hd => ?_) (fun v4 => ?_)
                · have hx := ((Below.refl wz.heap.size wz).drew).trans hg
                  (try (have ee : v3 = (.bool true : Value) := hd 3 (by simp) (by decide); subst ee))
                  clear hd hg
                  go_wp2
                  exact ⟨_, rfl, Below.refl _ _, rfl⟩
                (try simp only [List.cons_append, List.nil_append, Act.put, List.setIfInBounds_toArray, List.set_cons_zero, List.set_cons_succ])
                refine inv_cons (fun wx hg hd => ?_) (fun v5 => ?_)
                · have hx := ((Below.refl wz.heap.size wz).drew).trans hg
                  (try (have ee : v3 = (.bool true : Value) := hd 3 (by simp) (by decide); subst ee))
                  clear hd hg
                  go_wp2
                  exact ⟨_, rfl, Below.refl _ _, rfl⟩
                (try simp only [List.cons_append, List.nil_append, Act.put, List.setIfInBounds_toArray, List.set_cons_zero, List.set_cons_succ])
                refine inv_cons (fun wx hg hd => ?_) (fun v6 => ?_)
                · have hx := ((Below.refl wz.heap.size wz).drew).trans hg
                  (try (have ee : v3 = (.bool true : Value) := hd 3 (by simp) (by decide); subst ee))
                  (try (have ee : v4 = (.slice (some ⟨g, off, none⟩) n c : Value) := hd 4 (by simp) (by decide); subst ee))
                  (try (have ee : v5 = (.int .i64 i : Value) := hd 5 (by simp) (by decide); subst ee))
                  clear hd hg
                  go_wp2
                  exact ⟨_, rfl, Below.refl _ _, rfl⟩
                (try simp only [List.cons_append, List.nil_append, Act.put, List.setIfInBounds_toArray, List.set_cons_zero, List.set_cons_succ])
                refine inv_cons (fun wx hg hd => ?_) (fun v7 => ?_)
                · have hx := ((Below.refl wz.heap.size wz).drew).trans hg
                  (try (have ee : v3 = (.bool true : Value) := hd 3 (by simp) (by decide); subst ee))
                  (try (have ee : v6 = (.pointer (some ⟨g, off + i, none⟩) : Value) := hd 6 (by simp) (by decide); subst ee))
                  clear hd hg
                  obtain ⟨x0, x1⟩ := HCI.out _ (HI.out.trans (hx.mono hsz))
                  go_wp2
                  exact ⟨_, rfl, Below.refl _ _, rfl⟩
                (try simp only [List.cons_append, List.nil_append, Act.put, List.setIfInBounds_toArray, List.set_cons_zero, List.set_cons_succ])
                refine inv_cons (fun wx hg hd => ?_) (fun v8 => ?_)
                · have hx := ((Below.refl wz.heap.size wz).drew).trans hg
                  (try (have ee : v3 = (.bool true : Value) := hd 3 (by simp) (by decide); subst ee))
                  clear hd hg
                  go_wp2
                  exact ⟨_, rfl, Below.refl _ _, rfl⟩
                (try simp only [List.cons_append, List.nil_append, Act.put, List.setIfInBounds_toArray, List.set_cons_zero, List.set_cons_succ])
                refine inv_cons (fun wx hg hd => ?_) (fun v9 => ?_)
                · have hx := ((Below.refl wz.heap.size wz).drew).trans hg
                  (try (have ee : v3 = (.bool true : Value) := hd 3 (by simp) (by decide); subst ee))
                  clear hd hg
                  go_wp2
                  exact ⟨_, rfl, Below.refl _ _, rfl⟩
                (try simp only [List.cons_append, List.nil_append, Act.put, List.setIfInBounds_toArray, List.set_cons_zero, List.set_cons_succ])
                refine inv_cons (fun wx hg hd => ?_) (fun v10 => ?_)
                · have hx := ((Below.refl wz.heap.size wz).drew).trans hg
                  (try (have ee : v3 = (.bool true : Value) := hd 3 (by simp) (by decide); subst ee))
                  (try (have ee : v8 = (.slice (some ⟨g, off, none⟩) n c : Value) := hd 8 (by simp) (by decide); subst ee))
                  (try (have ee : v9 = (.int .i64 k : Value) := hd 9 (by simp) (by decide); subst ee))
                  clear hd hg
                  go_wp2
                  exact ⟨_, rfl, Below.refl _ _, rfl⟩
                (try simp only [List.cons_append, List.nil_append, Act.put, List.setIfInBounds_toArray, List.set_cons_zero, List.set_cons_succ])
                refine inv_cons (fun wx hg hd => ?_) (fun v11 => ?_)
                · have hx := ((Below.refl wz.heap.size wz).drew).trans hg
                  (try (have ee : v3 = (.bool true : Value) := hd 3 (by simp) (by decide); subst ee))
                  (try (have ee : v10 = (.pointer (some ⟨g, off + k, none⟩) : Value) := hd 10 (by simp) (by decide); subst ee))
                  clear hd hg
                  obtain ⟨x0, x1⟩ := HCK.out _ (HI.out.trans (hx.mono hsz))
                  go_wp2
                  exact ⟨_, rfl, Below.refl _ _, rfl⟩
                (try simp only [List.cons_append, List.nil_append, Act.put, List.setIfInBounds_toArray, List.set_cons_zero, List.set_cons_succ])
                refine inv_cons (fun wx hg hd => ?_) (fun v12 => ?_)
                · have hx := ((Below.refl wz.heap.size wz).drew).trans hg
                  (try (have ee : v3 = (.bool true : Value) := hd 3 (by simp) (by decide); subst ee))
                  (try (have ee : v7 = (.int .u64 u : Value) := hd 7 (by simp) (by decide); subst ee))
                  (try (have ee : v11 = (.int .u64 u2 : Value) := hd 11 (by simp) (by decide); subst ee))
                  clear hd hg
                  go_wp2_with fail
                  refine (HWN.out _).mono ?_
                  rintro e w' ⟨rfl, hb⟩
                  go_wp2
                  exact ⟨_, rfl, hb, rfl⟩
                (try simp only [List.cons_append, List.nil_append, Act.put, List.setIfInBounds_toArray, List.set_cons_zero, List.set_cons_succ])
                refine inv_cons (fun wx hg hd => ?_) (fun v13 => ?_)
                · have hx := ((Below.refl wz.heap.size wz).drew).trans hg
                  (try (have ee : v3 = (.bool true : Value) := hd 3 (by simp) (by decide); subst ee))
                  (try (have ee : v12 = (.bool false : Value) := hd 12 (by simp) (by decide); subst ee))
                  clear hd hg
                  go_wp2
                  exact ⟨_, rfl, Below.refl _ _, rfl⟩
                (try simp only [List.cons_append, List.nil_append, Act.put, List.setIfInBounds_toArray, List.set_cons_zero, List.set_cons_succ])
                refine inv_done (fun wx hg hd => ?_)
                have hx := ((Below.refl wz.heap.size wz).drew).trans hg
                (have ee : v0 = (.int .i64 k : Value) := hd 0 (by simp); subst ee)
                (have ee : v1 = (.int .i64 i : Value) := hd 1 (by simp); subst ee)
                (have ee : v2 = (.bool true : Value) := hd 2 (by simp); subst ee)
                (have ee : v3 = (.bool true : Value) := hd 3 (by simp); subst ee)
                (have ee : v4 = (.slice (some ⟨g, off, none⟩) n c : Value) := hd 4 (by simp); subst ee)
                (have ee : v5 = (.int .i64 i : Value) := hd 5 (by simp); subst ee)
                (have ee : v6 = (.pointer (some ⟨g, off + i, none⟩) : Value) := hd 6 (by simp); subst ee)
                (have ee : v7 = (.int .u64 u : Value) := hd 7 (by simp); subst ee)
                (have ee : v8 = (.slice (some ⟨g, off, none⟩) n c : Value) := hd 8 (by simp); subst ee)
                (have ee : v9 = (.int .i64 k : Value) := hd 9 (by simp); subst ee)
                (have ee : v10 = (.pointer (some ⟨g, off + k, none⟩) : Value) := hd 10 (by simp); subst ee)
                (have ee : v11 = (.int .u64 u2 : Value) := hd 11 (by simp); subst ee)
                (have ee : v12 = (.bool false : Value) := hd 12 (by simp); subst ee)
                (have ee : v13 = (.bool false : Value) := hd 13 (by simp); subst ee)
                clear hd hg
                (try go_simp)
                have HI2 := Lib.hid (HI.out.trans (hx.mono hsz))
                clear hx HI
                go_wp2
                go_roundw
                case rel => exact ⟨k + 1, by omega, by go_num, HK2.out, HI2.out⟩
                case measure => simp [intOf]; omega
          · obtain rfl : k = n := by omega
            have q2 : decide ((k : Int) < (k : Int)) = false := decide_eq_false (by omega)
            have HA2 : Hid (∀ a, a < i + 1 → isW (l.getD a 0).toNat = true ∧ ∀ b, b < k → b ≠ a → inB (l.getD a 0).toNat (l.getD b 0).toNat = false) := fun a ha => by
              by_cases e : a = i
              · subst e
                rw [HU.out, Int.toNat_natCast]
                exact ⟨HWI.out, HK.out⟩
              · exact HA.out a (by omega)
            go_wp2
            go_roundw
            case rel => exact ⟨i + 1, by omega, by go_num, HA2.out, HI.out⟩
            case measure => simp [intOf]; omega
    · obtain rfl : i = n := by omega
      have q1 : decide ((i : Int) < (i : Int)) = false := decide_eq_false (by omega)
      have HO : Hid (o = true) := HT.out HA.out
      go_wp2
      go_ret
      exact ⟨by rw [HO.out]; rfl, HI.out⟩
end Go.Proofs.YtkjfdaleamonaaaGreat
