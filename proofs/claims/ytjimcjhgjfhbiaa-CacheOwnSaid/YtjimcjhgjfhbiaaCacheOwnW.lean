/- The walk of the law CacheOwn. -/
import Derived.Test.YtjimcjhgjfhbiaaPackAC
namespace Go.Proofs.Ytjimcjhgjfhbiaa.cacheOwn
open Go.RowKit Go.Lib

theorem bytes_of_ints {w : World} {n : Nat} {ao : Option Addr} {z : Nat → Int} (h : IntsAtK .u8 w w.heap.size ao n z) : BytesAt w ao ((List.range n).map z) := fun h0 => by
  obtain ⟨b, off, e, hlt, hc⟩ := h (by simpa using h0)
  refine ⟨b, off, e, hlt, fun i hi => ?_⟩
  have hi' : i < n := by simpa using hi
  rw [hc i hi', List.getD_eq_getElem?_getD, List.getElem?_map, List.getElem?_range hi']
  rfl
theorem own_byte {w : World} {base g n cap : Nat} {l : List Int} (h : w.ownsRow base 5 1 (.slice (some ⟨g, 0, none⟩) n cap) n (byV l)) (hl : l.length = n) {k : Nat} (hk : k < n) : w.cell? ⟨g, k, none⟩ = some (.int .u8 (l.getD k 0)) ∧ w.frozen? ⟨g, k, none⟩ = false := by
  obtain ⟨cur, hh, hbg, hnc, hcm, hcs, htake⟩ := own_block h
  refine ⟨?_, frozen_of_row _ _ _ _ _ hh⟩
  have h3 : w.cell? ⟨g, k, none⟩ = cur[k]? := by simp [World.cell?, hh]
  rw [h3, ← Array.getElem?_toList, ← List.getElem?_take_of_lt (show k < n * 1 by omega), htake]
  exact byV_get l k (by omega)
theorem good_c : goodP 3 (0, 0, 0, 0) = true := by kernel_rfl
theorem at_one (l : List Int) : atA [(((0, 0, 0, 0), l) : AE)] (0, 0, 0, 0) = 0 := rfl
set_option maxRecDepth 100000 in
set_option maxHeartbeats 2000000 in
theorem walk {w : World} (a0 : Option Addr) (n0 c0 : Nat) (z0 : Nat → Int) (h0 : IntsAtK .u8 w w.heap.size a0 n0 z0) (_b0 : ∀ i, i < n0 → (Lit.int .u8 (z0 i)).wf = true) (_s0 : n0 * 1 ≤ 140737488351232) (a1 : Int) (_w1 : (Lit.int .i64 a1).wf = true) :
    Calls Try.prog 3 #[.slice a0 n0 c0, .int .i64 a1] w fun e w' => e = .returned (.bool true) ∧ Below w.heap.size w w' := by
  obtain ⟨i0, hi, hz0, hz1, hz2⟩ := info_parts info_u8
  have hby := bytes_of_ints h0
  have e1 : bits BinOp.and IntKind.i64 a1 65535 = a1 % 65536 := i64_and_mask a1 16 (by omega) 65535 rfl
  obtain ⟨l, hl⟩ : ∃ l, (List.range n0).map z0 = l := ⟨_, rfl⟩
  have hll : l.length = n0 := by rw [← hl]; simp
  rw [hl] at hby
  have HBY := Lib.hid hby
  have HLL := Lib.hid hll
  have HN := Lib.hid (kcnew_any 3 w)
  clear h0 hby hl hll _b0 _s0 _w1
  by_cases hsm : n0 = 0 ∨ 500 < n0
  · have HAW : Hid (∀ W, Below w.heap.size w W → Calls Try.prog 6 #[] W fun e w' => e = .returned (.bool true) ∧ Below w.heap.size w w') := fun W hW => (awake24_any W).mono fun _ _ h => ⟨h.1, hW.trans (h.2.mono hW.size)⟩
    obtain ⟨q, hq⟩ : ∃ q, ((n0 : Int) == 0) = q := ⟨_, rfl⟩
    have hq2 : q = false → decide ((500 : Int) < (n0 : Int)) = true := fun e => by
      subst e
      rw [beq_eq_false_iff_ne] at hq
      exact decide_eq_true (by omega)
    clear hsm
    cases q
    · have q2 := hq2 rfl
      clear hq2
      go_enter Try.func3, Try.ntmps3
      go_wp2_with fail
      refine HN.out.mono ?_
      rintro e w1 ⟨r, S, T, rfl, hc, hb, hS⟩
      have HA := Lib.hid (HAW.out w1 hb)
      clear hc hb hS
      go_wp2_with fail
      refine HA.out.mono ?_
      rintro e w2 ⟨rfl, hb2⟩
      have HB := Lib.hid hb2
      clear hb2
      go_wp2
      first | go_ret | skip
      exact ⟨rfl, HB.out⟩
    · clear hq2
      go_enter Try.func3, Try.ntmps3
      go_wp2_with fail
      refine HN.out.mono ?_
      rintro e w1 ⟨r, S, T, rfl, hc, hb, hS⟩
      have HA := Lib.hid (HAW.out w1 hb)
      clear hc hb hS
      go_wp2_with fail
      refine HA.out.mono ?_
      rintro e w2 ⟨rfl, hb2⟩
      have HB := Lib.hid hb2
      clear hb2
      go_wp2
      first | go_ret | skip
      exact ⟨rfl, HB.out⟩
  · have q1 : ((n0 : Int) == 0) = false := by rw [beq_eq_false_iff_ne]; omega
    have q2 : decide ((500 : Int) < (n0 : Int)) = false := decide_eq_false (by omega)
    have hn0 : 0 < n0 := by omega
    have hn5 : n0 ≤ 500 := by omega
    obtain ⟨bb, off, rfl, hbb, -⟩ := HBY.out (by rw [HLL.out]; exact hn0)
    clear hsm
    go_enter Try.func3, Try.ntmps3
    go_wp2_with fail
    refine HN.out.mono ?_
    rintro e w1 ⟨r, S, T, rfl, hc, hb, hS⟩
    have hst := str_at (HBY.out.below hb) HLL.out (c := c0)
    have HB1 := Lib.hid hb
    have HC1 := Lib.hid hc
    have HS1 := Lib.hid hS
    have HE0 : Hid ((w1.alloc (.cells #[] 5)).ownsRow w1.heap.size 5 1 (.slice (some ⟨w1.heap.size, 0, none⟩) 0 0) 0 []) := World.ownsRow_lit (size := 1) (e := 5) w1 #[] 0 (Nat.le_refl _) (by decide) rfl
    have HB0 : Hid (Below w1.heap.size w1 (w1.alloc (.cells #[] 5))) := (Below.refl w1.heap.size w1).alloc (Nat.le_refl _) _
    have HNEW : Hid (∀ j u, (byV l)[j]? = some u → (w1.alloc (.cells #[] 5)).cell? ((⟨bb, off, none⟩ : Addr).add j) = some u) := fun j u hj => bytes_news ((HBY.out.below hb).below HB0.out) _ rfl j u hj
    have HLV : Hid ((byV l).length = n0 * 1) := by show _ = _; rw [byV_len, HLL.out, Nat.mul_one]
    clear hc hb hS HN
    go_wp2_with (at_builtin; refine wpList_append_own _ rfl _ _ 22 rfl w1.heap.size 5 i0 (.int .u8 0) 1 1 Try.underlying22 hi hz0 hz1 hz2 rfl (by decide) _ _ _ rfl HE0.out ⟨bb, off, none⟩ n0 c0 (byV l) rfl HLV.out HNEW.out (byV_cell _) (by unfold maxLen; omega) (by omega) HB0.out.size ?_)
    intro v' w3 hown hgrow _
    have hb3 : Below w1.heap.size w1 w3 := below_append HB0.out HE0.out HB0.out.size hgrow
    obtain ⟨ao', c', rfl, -, hh⟩ := own_form hown
    obtain ⟨g, rfl, -⟩ := hh hn0
    have HB3 : Hid (Below w.heap.size w w3) := HB1.out.trans (hb3.mono HB1.out.size)
    have HO3 := Lib.hid hown
    have HGE : Hid (w1.heap.size ≤ g ∧ g < w3.heap.size) := own_lt hown _ _ _ rfl
    have HGW : Hid (w.heap.size ≤ g) := Nat.le_trans HB1.out.size HGE.out.1
    have HP := Lib.hid (kput_any (HC1.out.below hb3) (by decide) (0, 0, 0, 0) l HLL.out (by omega) (bytesAt_own hown HLL.out) (c := c') (fun h => by cases h))
    have HSG : Hid (∀ k, S k ∨ T k → k ≠ g) := fun k hk e => by have := HC1.out.lt k hk; have := HGE.out.1; omega
    clear hown hgrow hb3 hh HE0 HB0 HNEW HLV hst
    go_wp2_with fail
    refine HP.out.mono ?_
    rintro e w4 ⟨rfl, S', T', p1, p2, p3⟩
    rw [show (min (max 3 0) 1000 : Int).toNat = 3 from rfl] at p1 HP
    rw [show (min (max 3 0) 1000 : Int).toNat = 3 from rfl]
    rw [good_c] at p1
    rw [good_c]
    rw [if_pos rfl, show putA 3 [] (0, 0, 0, 0) l = [((0, 0, 0, 0), l)] from rfl] at p1
    have HF : Hid (∀ k, S' k ∨ T' k → w.heap.size ≤ k ∧ k ≠ g) := fun k hk => by
      rcases Nat.lt_or_ge k w3.heap.size with h4 | h4
      · exact ⟨HS1.out k (p3 k h4 hk), HSG.out k (p3 k h4 hk)⟩
      · exact ⟨Nat.le_trans HB3.out.size h4, by have := HGE.out.2; omega⟩
    have HB4 : Hid (Below w.heap.size w w4) := mine_turn HB3.out p2 fun k hk => HS1.out k (.inl hk)
    have HO4 : Hid (w4.ownsRow w1.heap.size 5 1 (.slice (some ⟨g, 0, none⟩) n0 c') n0 (byV l)) := own_turn HO3.out p2 fun g' o s e hs => by cases e; exact HSG.out g (.inl hs) rfl
    have HC4 := Lib.hid p1
    obtain ⟨k, hk⟩ : ∃ k : Nat, (a1 % 65536).tmod (n0 : Int) = (k : Int) := ⟨((a1 % 65536).tmod (n0 : Int)).toNat, by rw [Int.tmod_eq_emod_of_nonneg (by omega)]; exact (Int.toNat_of_nonneg (Int.emod_nonneg _ (by omega))).symm⟩
    have hkn : k < n0 := by
      rw [Int.tmod_eq_emod_of_nonneg (by omega)] at hk
      have := Int.emod_lt_of_pos (a1 % 65536) (show (0 : Int) < n0 by omega)
      omega
    obtain ⟨d1, d2⟩ := own_byte HO4.out HLL.out hkn
    have hg4 : g < w4.heap.size := (own_lt HO4.out _ _ _ rfl).2
    have hki : (k : Int) < (n0 : Int) := by omega
    have hki0 : ¬ (k : Int) < 0 := by omega
    have hn0z : ((n0 : Int) == 0) = false := q1
    have hn0n : (n0 : Int) ≠ 0 := by omega
    clear p1 p2 p3 HP HO3 HS1 HSG HC1 HB1 HGE
    go_upto_region 10 with (fail)
    have ht5 : Turn (fun y => y = g) w4 (w4.setCell ⟨g, k, none⟩ (.int .u8 ((l[k]?.getD 0 + 1) % 256))) := (Turn.refl (fun y => y = g) w4).setCell (a := ⟨g, k, none⟩) rfl _
    generalize w4.setCell ⟨g, k, none⟩ (.int .u8 ((l[k]?.getD 0 + 1) % 256)) = w5 at *
    have HC5 : Hid (CacheIs w5 r S' T' 3 (0 + 1) [((0, 0, 0, 0), l)]) := HC4.out.kept ht5 fun y hy => (HF.out y hy).2
    have HB5 : Hid (Below w.heap.size w w5) := mine_turn HB4.out ht5 fun y hy => by rw [hy]; exact HGW.out
    have HG := Lib.hid (kget_any HC5.out (by decide) (0, 0, 0, 0))
    clear d1 d2 ht5 HO4 HC4 HB4 hg4
    go_wp2_with fail
    refine HG.out.mono ?_
    rintro e w6 (⟨p1, _, _⟩ | ⟨a, xo, xc, p1, p2, rfl, p4, p5, p6, p7⟩)
    · cases (show (0 : Nat) = 1 from p1)
    obtain rfl : ((0, 0, 0, 0), l) = a := by
      have h9 : some (((0, 0, 0, 0), l) : AE) = some a := p1
      exact Option.some.inj h9
    have p5' : w6.ownsRow w5.heap.size 5 1 (.slice xo l.length xc) l.length (byV l) := p5
    have p6' : CacheIs w6 r S' T' 3 (0 + 1 + 1) [((0, 0, 0, 0), l)] := p6
    clear p5 p6
    rw [HLL.out] at p5'
    obtain ⟨_, _, e2, -, hh⟩ := own_form p5'
    cases e2
    obtain ⟨x, rfl, -⟩ := hh hn0
    have hcs := str_at (bytesAt_own p5' HLL.out) HLL.out (c := xc)
    obtain ⟨d1, d2⟩ := own_byte p5' HLL.out hkn
    have hx6 := own_lt p5' _ _ _ rfl
    have HX : Hid (w5.heap.size ≤ x) := hx6.1
    have hx7 : x < w6.heap.size := hx6.2
    have HC6 := Lib.hid p6'
    have HB6 : Hid (Below w.heap.size w w6) := mine_turn HB5.out p7 fun y hy => (HF.out y (.inl hy)).1
    have HS6 : Hid (∀ y, S' y ∨ T' y → ¬ y = x) := fun y hy e => by have := HC5.out.lt y hy; have := HX.out; omega
    clear p1 p2 p4 p5' p6' p7 hh hx6 HG HC5
    simp only [HLL.out]
    go_upto_region 14 with (fail)
    have ht7 : Turn (fun y => y = x) w6 (w6.setCell ⟨x, k, none⟩ (.int .u8 ((l[k]?.getD 0 + 2) % 256))) := (Turn.refl (fun y => y = x) w6).setCell (a := ⟨x, k, none⟩) rfl _
    generalize w6.setCell ⟨x, k, none⟩ (.int .u8 ((l[k]?.getD 0 + 2) % 256)) = w7 at *
    have HC7 : Hid (CacheIs w7 r S' T' 3 (0 + 1 + 1) [((0, 0, 0, 0), l)]) := HC6.out.kept ht7 HS6.out
    have HB7 : Hid (Below w.heap.size w w7) := mine_turn HB6.out ht7 fun y hy => by rw [hy]; exact Nat.le_trans HB5.out.size HX.out
    have HG := Lib.hid (kget_any HC7.out (by decide) (0, 0, 0, 0))
    clear d1 d2 ht7 HC6 HB6 hx7 hcs
    go_wp2_with fail
    refine HG.out.mono ?_
    rintro e w8 (⟨p1, _, _⟩ | ⟨a, xo, xc, p1, p2, rfl, p4, p5, p6, p7⟩)
    · cases (show (0 : Nat) = 1 from p1)
    obtain rfl : ((0, 0, 0, 0), l) = a := by
      have h9 : some (((0, 0, 0, 0), l) : AE) = some a := p1
      exact Option.some.inj h9
    have p5' : w8.ownsRow w7.heap.size 5 1 (.slice xo l.length xc) l.length (byV l) := p5
    clear p5
    rw [HLL.out] at p5'
    obtain ⟨_, _, e2, -, hh⟩ := own_form p5'
    cases e2
    obtain ⟨y, rfl, -⟩ := hh hn0
    have hcs := str_at (bytesAt_own p5' HLL.out) HLL.out (c := xc)
    have HB8 : Hid (Below w.heap.size w w8) := mine_turn HB7.out p7 fun y hy => (HF.out y (.inl hy)).1
    have HAW := Lib.hid (awake24_any w8)
    clear p1 p2 p4 p5' p6 p7 hh HG HC7
    simp only [HLL.out]
    go_wp2_with fail
    refine HAW.out.mono ?_
    rintro e w9 ⟨rfl, hb9⟩
    have HB9 : Hid (Below w.heap.size w w9) := HB8.out.trans (hb9.mono HB8.out.size)
    clear hb9
    go_wp2
    first | go_ret | skip
    exact ⟨rfl, HB9.out⟩
end Go.Proofs.Ytjimcjhgjfhbiaa.cacheOwn
