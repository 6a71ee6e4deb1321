/- The contract of apiaryref9.PolyBox. -/
import Derived.Test.YtnnfkdajbaicoaaRefB
import Derived.Test.YtnnfkdajbaicoaaPolyF
import Derived.BigRegion
import Derived.Deep.CutRange
namespace Go.Proofs.Ytnnfkdajbaicoaa
open Go.RowKit

/-- Two blocks of two numbers each, wherever they lie. -/
structure Box2 (w : World) (g h : Nat) (s : Bx) : Prop where
  c0 : w.cell? ⟨g, 0, none⟩ = some (.int .i64 s.a)
  c1 : w.cell? ⟨g, 1, none⟩ = some (.int .i64 s.b)
  d0 : w.cell? ⟨h, 0, none⟩ = some (.int .i64 s.c)
  d1 : w.cell? ⟨h, 1, none⟩ = some (.int .i64 s.d)
  f0 : w.frozen? ⟨g, 0, none⟩ = false
  f1 : w.frozen? ⟨g, 1, none⟩ = false
  f2 : w.frozen? ⟨h, 0, none⟩ = false
  f3 : w.frozen? ⟨h, 1, none⟩ = false
  s1 : g < w.heap.size
  s2 : h < w.heap.size
  ne : g ≠ h
theorem Box2.drew {w : World} {g h : Nat} {s : Bx} (b : Box2 w g h s) : Box2 w.drew g h s := ⟨b.c0, b.c1, b.d0, b.d1, b.f0, b.f1, b.f2, b.f3, b.s1, b.s2, b.ne⟩
theorem Box2.of {w : World} {g : Nat} {s : Bx} (b : BoxAt w g s) : Box2 w g (g + 1) s := ⟨b.c0, b.c1, b.d0, b.d1, b.f0, b.f1, b.f2, b.f3, by have := b.sz; omega, b.sz, by omega⟩
theorem Box2.of' {w : World} {g : Nat} {a b c d : Int} (x : BoxAt w g ⟨c, d, a, b⟩) : Box2 w (g + 1) g ⟨a, b, c, d⟩ := ⟨x.d0, x.d1, x.c0, x.c1, x.f2, x.f3, x.f0, x.f1, x.sz, by have := x.sz; omega, by omega⟩
theorem Box2.lo {w : World} {g h : Nat} {s : Bx} (b : Box2 w g h s) (k : Nat) (x : Int) (s' : Bx) (hk : (k = 0 ∧ s' = ⟨x, s.b, s.c, s.d⟩) ∨ (k = 1 ∧ s' = ⟨s.a, x, s.c, s.d⟩)) : Box2 (w.setCell ⟨g, k, none⟩ (.int .i64 x)) g h s' := by
  have hne := b.ne
  have e1 : ∀ (i j : Nat) (v : Value), i ≠ j → (w.setCell ⟨g, i, none⟩ v).cell? ⟨g, j, none⟩ = w.cell? ⟨g, j, none⟩ := fun i j v hij => World.cell?_setCell_other _ _ _ _ (fun h => hij (congrArg Addr.off h))
  have e2 : ∀ (i j : Nat) (v : Value), (w.setCell ⟨g, i, none⟩ v).cell? ⟨h, j, none⟩ = w.cell? ⟨h, j, none⟩ := fun i j v => World.cell?_setCell_other _ _ _ _ (fun h => hne (congrArg Addr.block h))
  rcases hk with ⟨rfl, rfl⟩ | ⟨rfl, rfl⟩
  · exact ⟨World.cell?_setCell_same _ _ _ b.c0, (e1 _ _ _ (by decide)).trans b.c1, (e2 _ _ _).trans b.d0, (e2 _ _ _).trans b.d1, by rw [World.frozen?_setCell]; exact b.f0, by rw [World.frozen?_setCell]; exact b.f1, by rw [World.frozen?_setCell]; exact b.f2, by rw [World.frozen?_setCell]; exact b.f3, by simpa using b.s1, by simpa using b.s2, hne⟩
  · exact ⟨(e1 _ _ _ (by decide)).trans b.c0, World.cell?_setCell_same _ _ _ b.c1, (e2 _ _ _).trans b.d0, (e2 _ _ _).trans b.d1, by rw [World.frozen?_setCell]; exact b.f0, by rw [World.frozen?_setCell]; exact b.f1, by rw [World.frozen?_setCell]; exact b.f2, by rw [World.frozen?_setCell]; exact b.f3, by simpa using b.s1, by simpa using b.s2, hne⟩
theorem Box2.hi {w : World} {g h : Nat} {s : Bx} (b : Box2 w g h s) (k : Nat) (x : Int) (s' : Bx) (hk : (k = 0 ∧ s' = ⟨s.a, s.b, x, s.d⟩) ∨ (k = 1 ∧ s' = ⟨s.a, s.b, s.c, x⟩)) : Box2 (w.setCell ⟨h, k, none⟩ (.int .i64 x)) g h s' := by
  have hne := b.ne
  have e1 : ∀ (i j : Nat) (v : Value), i ≠ j → (w.setCell ⟨h, i, none⟩ v).cell? ⟨h, j, none⟩ = w.cell? ⟨h, j, none⟩ := fun i j v hij => World.cell?_setCell_other _ _ _ _ (fun h => hij (congrArg Addr.off h))
  have e2 : ∀ (i j : Nat) (v : Value), (w.setCell ⟨h, i, none⟩ v).cell? ⟨g, j, none⟩ = w.cell? ⟨g, j, none⟩ := fun i j v => World.cell?_setCell_other _ _ _ _ (fun h => hne (congrArg Addr.block h).symm)
  rcases hk with ⟨rfl, rfl⟩ | ⟨rfl, rfl⟩
  · exact ⟨(e2 _ _ _).trans b.c0, (e2 _ _ _).trans b.c1, World.cell?_setCell_same _ _ _ b.d0, (e1 _ _ _ (by decide)).trans b.d1, by rw [World.frozen?_setCell]; exact b.f0, by rw [World.frozen?_setCell]; exact b.f1, by rw [World.frozen?_setCell]; exact b.f2, by rw [World.frozen?_setCell]; exact b.f3, by simpa using b.s1, by simpa using b.s2, hne⟩
  · exact ⟨(e2 _ _ _).trans b.c0, (e2 _ _ _).trans b.c1, (e1 _ _ _ (by decide)).trans b.d0, World.cell?_setCell_same _ _ _ b.d1, by rw [World.frozen?_setCell]; exact b.f0, by rw [World.frozen?_setCell]; exact b.f1, by rw [World.frozen?_setCell]; exact b.f2, by rw [World.frozen?_setCell]; exact b.f3, by simpa using b.s1, by simpa using b.s2, hne⟩

set_option maxHeartbeats 2000000 in
theorem rbox_no (ao : Option Addr) (c : Nat) (ls : List (List Pt)) (w : World) (B : Nat) (hB : B ≤ w.heap.size) (h : RingsAt w B ao ls) (hn : ls.length ≤ 1000000000) (ht : totTo ls ls.length ≤ 1000000000) (hz : checkF ls ≠ 0) :
    Calls Try.prog 17 #[.slice ao ls.length c] w fun e w' => e = .returned (boxV (boxF ls)) ∧ Below w.heap.size w w' := by
  have HC := Lib.hid (fun w1 (hb : Below w.heap.size w w1) => rcheck_any ao c ls w1 B (by have := hb.size; omega) (h.below hb hB) hn ht)
  obtain ⟨n, hnn⟩ : ∃ n, ls.length = n := ⟨_, rfl⟩
  rw [hnn] at hn HC ⊢
  clear hnn ht
  have HF : Hid (boxF ls = ⟨0, 0, 0, 0⟩) := by show _ = _; unfold boxF; rw [if_neg hz]
  have hzb : (checkF ls != 0) = true := by simpa using hz
  go_enter Try.func17, Try.ntmps17
  go_wp2_with fail
  have HB : Hid (BoxAt _ _ _) := BoxAt.new w 27 0 0 0 0
  have HBl : Hid (Below w.heap.size w ((w.alloc (.cells #[.int .i64 0, .int .i64 0] 27)).alloc (.cells #[.int .i64 0, .int .i64 0] 27))) := ((Below.refl _ _).alloc (Nat.le_refl _) _).alloc (by simp) _
  refine (HC.out _ HBl.out).mono ?_
  rintro e w1 ⟨rfl, hb1⟩
  have hbw : Below w.heap.size w w1 := HBl.out.trans (hb1.mono (by simp; omega))
  obtain ⟨c0, c1, d0, d1, f0, f1, f2, f3, sz⟩ := HB.out.below hb1
  have HX : Hid (BoxAt w1 w.heap.size ⟨0, 0, 0, 0⟩) := HB.out.below hb1
  clear HB HBl hb1 HC
  go_wp2
  have HY := HX.out.put4 0 0 0 0
  refine bodyPost_ret (v := boxV ⟨0, 0, 0, 0⟩) (by have c0 := HY.c0; have c1 := HY.c1; have d0 := HY.d0; have d1 := HY.d1; simp [results, Try.results17, go_sem, boxV, *]) rfl ⟨by rw [HF.out], below_put4 hbw (Nat.le_refl _) _ _ _ _⟩

set_option maxRecDepth 100000 in
set_option maxHeartbeats 4000000 in
theorem rbox_yes (ao : Option Addr) (c : Nat) (ls : List (List Pt)) (w : World) (B : Nat) (hB : B ≤ w.heap.size) (h : RingsAt w B ao ls) (hn : ls.length ≤ 1000000000) (ht : totTo ls ls.length ≤ 1000000000) (hz : checkF ls = 0) :
    Calls Try.prog 17 #[.slice ao ls.length c] w fun e w' => e = .returned (boxV (boxF ls)) ∧ Below w.heap.size w w' := by
  have HC := Lib.hid (fun w1 (hb : Below w.heap.size w w1) => rcheck_any ao c ls w1 B (by have := hb.size; omega) (h.below hb hB) hn ht)
  obtain ⟨hl0, hl3⟩ := check_zero hz
  have HTT : Hid (∀ k, k < ls.length → (rg ls k).length ≤ 1000000000) := fun k hk => by
    have h1 := totTo_succ ls k hk
    have h2 := totTo_le ls (k + 1) (by omega)
    omega
  have HL3 := Lib.hid hl3
  have HR := Lib.hid h
  obtain ⟨n, hnn⟩ : ∃ n, ls.length = n := ⟨_, rfl⟩
  rw [hnn] at hn HC hl0 HTT HL3 ⊢
  have HN : Hid (ls.length = n) := hnn
  clear hnn ht hl3 h
  have HF : Hid (boxF ls = bxTo ls n) := by show _ = _; unfold boxF; rw [if_pos hz, HN.out]
  have hzb : (checkF ls != 0) = false := by simpa using hz
  go_enter Try.func17, Try.ntmps17
  go_wp2_with fail
  have HB : Hid (BoxAt _ _ _) := BoxAt.new w 27 0 0 0 0
  have HBl : Hid (Below w.heap.size w ((w.alloc (.cells #[.int .i64 0, .int .i64 0] 27)).alloc (.cells #[.int .i64 0, .int .i64 0] 27))) := ((Below.refl _ _).alloc (Nat.le_refl _) _).alloc (by simp) _
  refine (HC.out _ HBl.out).mono ?_
  rintro e w1 ⟨rfl, hb1⟩
  have hbw : Below w.heap.size w w1 := HBl.out.trans (hb1.mono (by simp; omega))
  have HX : Hid (BoxAt w1 w.heap.size ⟨0, 0, 0, 0⟩) := HB.out.below hb1
  have HW1 := Lib.hid hbw
  clear HB HBl hb1 HC
  obtain ⟨b, off, rfl, hb, hc⟩ := (HR.out.below hbw hB) (by rw [HN.out]; omega)
  obtain ⟨ri, ci, r0, hri⟩ := hc 0 (by rw [HN.out]; omega)
  obtain ⟨rb, ro, rfl, hrb, hrc⟩ := hri (by have := HL3.out 0 (by omega); omega)
  obtain ⟨p0, p1⟩ := hrc 0 (by have := HL3.out 0 (by omega); omega)
  have hlen : 3 ≤ (rg ls 0).length := HL3.out 0 (by omega)
  have hw1 := hbw.size
  clear hc hrc hri hbw
  generalize (rg ls 0).length = m0 at r0 hlen
  simp only [Nat.add_zero, Nat.zero_mul] at p0 p1 r0
  have hbw0 : b < w1.heap.size := by omega
  have hrbw0 : rb < w1.heap.size := by omega
  have HS0 : Hid (bxTo ls 0 = ⟨px (rg ls 0) 0, py (rg ls 0) 0, px (rg ls 0) 0, py (rg ls 0) 0⟩) := rfl
  generalize px (rg ls 0) 0 = x0 at p0 HS0
  generalize py (rg ls 0) 0 = y0 at p1 HS0
  go_upto_region 3 with (fail)
  go_cut [4, 5] from 14 to 23 (fun v4 v5 wx => ∃ g1 g2 : Nat, v4 = .pointer (some ⟨g1, 0, none⟩) ∧ v5 = .pointer (some ⟨g2, 0, none⟩) ∧ w1.heap.size ≤ g1 ∧ w1.heap.size ≤ g2 ∧ Hid (Box2 wx g1 g2 ⟨x0, y0, x0, y0⟩) ∧ Below w1.heap.size w1 wx)
  case first =>
    go_region
    · go_wp2
      go_meet
      exact ⟨_, _, rfl, rfl, by omega, by omega, (Box2.of (BoxAt.new w1 27 x0 y0 x0 y0)).drew, (((Below.refl _ _).alloc (Nat.le_refl _) _).alloc (by simp) _).drew⟩
    · go_wp2
      go_meet
      exact ⟨_, _, rfl, rfl, by omega, by omega, (Box2.of' (BoxAt.new w1 27 x0 y0 x0 y0)).drew, (((Below.refl _ _).alloc (Nat.le_refl _) _).alloc (by simp) _).drew⟩
  case rest =>
    obtain ⟨g1, g2, rfl, rfl, hg1, hg2, HB2, hbc⟩ := hcut
    have HBC := Lib.hid hbc
    clear p0 p1 r0 hbc
    go_wp2
    go_loopw [6] (fun i wr => ∃ k : Nat, k ≤ n ∧ i = .int .i64 k ∧ Hid (Box2 wr g1 g2 (bxTo ls k)) ∧ Below w1.heap.size w1 wr) (fun i _ => n - (intOf i).toNat)
    case atStart => exact ⟨0, Nat.zero_le _, rfl, by rw [HS0.out]; exact HB2, HBC.out⟩
    case round =>
      obtain ⟨k, hk, rfl, HY, hnx⟩ := hrel
      have hsz := hnx.size
      by_cases hlt : k < n
      · have hwx : Below w.heap.size w wr := HW1.out.trans (hnx.mono hw1)
        obtain ⟨b', off', e', hb', hc⟩ := (HR.out.below hwx hB) (by rw [HN.out]; omega)
        cases e'
        obtain ⟨ri, ci, r0, hri⟩ := hc k (by rw [HN.out]; omega)
        clear hc
        have hm3 := HL3.out k hlt
        have hmb := HTT.out k hlt
        have HS := Lib.hid (bxTo_succ ls k)
        have HRI := Lib.hid hri
        clear hri hwx
        obtain ⟨l, hl⟩ : ∃ l, rg ls k = l := ⟨_, rfl⟩
        rw [hl] at HRI hm3 hmb HS r0
        clear hl
        obtain ⟨m, hm⟩ : ∃ m, l.length = m := ⟨_, rfl⟩
        rw [hm] at r0 hm3 hmb HS
        have HM : Hid (l.length = m) := hm
        clear hm
        obtain ⟨rb, ro, rfl, hrb, _⟩ := HRI.out (by rw [HM.out]; omega)
        -- the ring and its corners at whatever later world
        have HRB : Hid (∀ wx, Below w1.heap.size wr wx → wx.cell? ⟨b, off + k, none⟩ = some (.slice (some ⟨rb, ro, none⟩) m ci) ∧ b < wx.heap.size ∧ rb < wx.heap.size ∧ ∀ j, j < m → wx.cell? ⟨rb, ro + j * 2, none⟩ = some (.int .i64 (px l j)) ∧ wx.cell? ⟨rb, ro + j * 2 + 1, none⟩ = some (.int .i64 (py l j))) := fun wx hbx => by
          have hz := hbx.size
          refine ⟨(hbx.cell (p := ⟨b, off + k, none⟩) hbw0).trans r0, by omega, by omega, fun j hj => ?_⟩
          obtain ⟨rb', ro', e', _, hc⟩ := (HRI.out.below hbx (by omega)) (by rw [HM.out]; omega)
          cases e'
          exact hc j (by rw [HM.out]; exact hj)
        obtain ⟨wo, hwo⟩ : ∃ wo : World, wo = wr := ⟨_, rfl⟩
        subst hwo
        go_wp2
        go_loopw [7] (fun i wi => ∃ j : Nat, j ≤ m ∧ i = .int .i64 j ∧ Hid (Box2 wi g1 g2 (bxR l (bxTo ls k) j)) ∧ Below w1.heap.size wo wi) (fun i _ => m - (intOf i).toNat)
        case atStart => exact ⟨0, Nat.zero_le _, rfl, HY, Below.refl _ _⟩
        case round =>
          obtain ⟨j, hj, rfl, HZ, hni⟩ := hrel
          obtain ⟨q0, qb, qr, _⟩ := HRB.out _ hni
          clear r0
          by_cases hjl : j < m
          · have HP : Hid (∀ wx, Below w1.heap.size wo wx → (wx.cell? ⟨b, off + k, none⟩ = some (.slice (some ⟨rb, ro, none⟩) m ci) ∧ b < wx.heap.size ∧ rb < wx.heap.size) ∧ wx.cell? ⟨rb, ro + j * 2, none⟩ = some (.int .i64 (px l j)) ∧ wx.cell? ⟨rb, ro + j * 2 + 1, none⟩ = some (.int .i64 (py l j))) := fun wx hbx => by
              obtain ⟨a1, a2, a3, a4⟩ := HRB.out _ hbx
              exact ⟨⟨a1, a2, a3⟩, a4 j hjl⟩
            have HSJ := Lib.hid (bxR_succ l (bxTo ls k) j)
            generalize px l j = x at HP HSJ
            generalize py l j = y at HP HSJ
            generalize bxR l (bxTo ls k) j = s at HZ HSJ
            obtain ⟨wj, hwj⟩ : ∃ wj : World, wj = wr := ⟨_, rfl⟩
            subst hwj
            go_wp2
            go_loopw [8] (fun i wt => ∃ t : Nat, t ≤ 2 ∧ i = .int .i64 t ∧ Hid (Box2 wt g1 g2 (bpart s x y t)) ∧ Below w1.heap.size wo wt) (fun i _ => 2 - (intOf i).toNat)
            case atStart => exact ⟨0, Nat.zero_le _, rfl, HZ, hni⟩
            case round =>
              obtain ⟨t, ht, rfl, HT, hnt⟩ := hrel
              clear q0 qb qr
              rcases (show t = 0 ∨ t = 1 ∨ t = 2 by omega) with rfl | rfl | rfl
              · obtain ⟨⟨q0, qb, qr⟩, p0, p1⟩ := HP.out _ hnt
                obtain ⟨c0, c1, d0, d1, f0, f1, f2, f3, s1, s2, ne⟩ := HT.out
                simp only [bpart] at c0 c1 d0 d1
                go_upto_region 13 with (fail)
                go_cut [] from 43 to 57 (fun wx => Hid (Box2 wx g1 g2 ⟨min s.a x, s.b, s.c, s.d⟩) ∧ Below w1.heap.size wo wx)
                case first =>
                  go_region
                  go_wp2
                  all_goals
                    go_meet
                    exact ⟨(HT.out.lo 0 _ _ (.inl ⟨rfl, by simp only [bpart, Bx.mk.injEq, and_true]; omega⟩)).drew, (hnt.setCell (p := ⟨g1, 0, none⟩) hg1 _).drew⟩
                case rest =>
                  obtain ⟨HT1, hnt1⟩ := hcut
                  clear q0 qb qr p0 p1 c0 c1 d0 d1 f0 f1 f2 f3 s1 s2 ne
                  obtain ⟨⟨q0, qb, qr⟩, p0, p1⟩ := HP.out _ hnt1
                  obtain ⟨c0, c1, d0, d1, f0, f1, f2, f3, s1, s2, ne⟩ := HT1.out
                  dsimp only at c0 c1 d0 d1
                  go_upto_region 14 with (fail)
                  go_region
                  go_wp2
                  refine ⟨⟨1, by omega, rfl, ?_, (hnt1.setCell (p := ⟨g2, 0, none⟩) hg2 _).drew⟩, by simp [intOf]⟩
                  rw [imaxD]
                  exact (HT1.out.hi 0 _ _ (.inl ⟨rfl, rfl⟩)).drew
              · obtain ⟨⟨q0, qb, qr⟩, p0, p1⟩ := HP.out _ hnt
                obtain ⟨c0, c1, d0, d1, f0, f1, f2, f3, s1, s2, ne⟩ := HT.out
                simp only [bpart] at c0 c1 d0 d1
                go_upto_region 13 with (fail)
                go_cut [] from 43 to 57 (fun wx => Hid (Box2 wx g1 g2 ⟨min s.a x, min s.b y, max s.c x, s.d⟩) ∧ Below w1.heap.size wo wx)
                case first =>
                  go_region
                  go_wp2
                  all_goals
                    go_meet
                    exact ⟨(HT.out.lo 1 _ _ (.inr ⟨rfl, by simp only [bpart, Bx.mk.injEq, and_true, true_and]; omega⟩)).drew, (hnt.setCell (p := ⟨g1, 1, none⟩) hg1 _).drew⟩
                case rest =>
                  obtain ⟨HT1, hnt1⟩ := hcut
                  clear q0 qb qr p0 p1 c0 c1 d0 d1 f0 f1 f2 f3 s1 s2 ne
                  obtain ⟨⟨q0, qb, qr⟩, p0, p1⟩ := HP.out _ hnt1
                  obtain ⟨c0, c1, d0, d1, f0, f1, f2, f3, s1, s2, ne⟩ := HT1.out
                  dsimp only at c0 c1 d0 d1
                  go_upto_region 14 with (fail)
                  go_region
                  go_wp2
                  refine ⟨⟨2, by omega, rfl, ?_, (hnt1.setCell (p := ⟨g2, 1, none⟩) hg2 _).drew⟩, by simp [intOf]⟩
                  rw [imaxD]
                  exact (HT1.out.hi 1 _ _ (.inr ⟨rfl, rfl⟩)).drew
              · go_wp2
                go_roundw
                case rel => exact ⟨j + 1, by omega, by go_num, by rw [HSJ.out]; exact HT, hnt⟩
                case measure => simp [intOf]; omega
          · obtain rfl : j = m := by omega
            go_wp2
            go_roundw
            case rel => exact ⟨k + 1, by omega, by go_num, by rw [HS.out]; exact HZ, hnx.trans hni⟩
            case measure => simp [intOf]; omega
      · obtain rfl : k = n := by omega
        have hxb : BoxAt wr w.heap.size ⟨0, 0, 0, 0⟩ := HX.out.below hnx
        obtain ⟨e0, e1, e2, e3, e4, e5, e6, e7, e8⟩ := hxb
        obtain ⟨c0, c1, d0, d1, f0, f1, f2, f3, s1, s2, ne⟩ := HY.out
        have HP' := Lib.hid ((HX.out.below hnx).put4 (bxTo ls k).a (bxTo ls k).b (bxTo ls k).c (bxTo ls k).d).drew
        have HEND := Lib.hid (HW1.out.trans (hnx.mono hw1))
        have hgx1 : w.heap.size + 1 < g1 := by have := HX.out.sz; omega
        have hgx2 : w.heap.size + 1 < g2 := by have := HX.out.sz; omega
        generalize bxTo ls k = s at *
        go_upto_region 15 with (fail)
        go_region
        go_wp2
        refine bodyPost_ret (v := boxV s) (by have c0 := HP'.out.c0; have c1 := HP'.out.c1; have d0 := HP'.out.d0; have d1 := HP'.out.d1; simp [results, Try.results17, go_sem, boxV, *]) rfl ⟨by rw [HF.out], (below_put4 HEND.out (Nat.le_refl _) _ _ _ _).drew⟩

theorem rbox_any (ao : Option Addr) (c : Nat) (ls : List (List Pt)) (w : World) (B : Nat) (hB : B ≤ w.heap.size) (h : RingsAt w B ao ls) (hn : ls.length ≤ 1000000000) (ht : totTo ls ls.length ≤ 1000000000) :
    Calls Try.prog 17 #[.slice ao ls.length c] w fun e w' => e = .returned (boxV (boxF ls)) ∧ Below w.heap.size w w' := by
  by_cases hz : checkF ls = 0
  · exact rbox_yes ao c ls w B hB h hn ht hz
  · exact rbox_no ao c ls w B hB h hn ht hz
end Go.Proofs.Ytnnfkdajbaicoaa
