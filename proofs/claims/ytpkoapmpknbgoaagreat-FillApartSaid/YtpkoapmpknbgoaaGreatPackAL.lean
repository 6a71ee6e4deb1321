/- Joined: FiR, FiQ, FiS, FiT: contracts and plain laws, each with its own heading below. -/
import Derived.Test.YtpkoapmpknbgoaaGreatPackAK
import Derived.BigRegion
import Derived.Lib.MinMax
import Derived.Great.BuildSlice
/- Rings of numbers: contract of apiarylaw11.Rings. -/
namespace Go.Proofs.YtpkoapmpknbgoaaGreat.Po
open Go.RowKit

theorem own_below {w w' : World} {base : Nat} {e : TypeId} {size : Nat} {v : Value} {n : Nat} {xs : List Value} (h : w.ownsRow base e size v n xs) {C : Nat} (hb : Below C w w') (hC : w.heap.size ≤ C) : w'.ownsRow base e size v n xs := by
  refine ⟨h.1, ?_⟩
  rcases h.2 with h2 | ⟨g, cap, cur, hv, hg, hh, r⟩
  · exact .inl h2
  · refine .inr ⟨g, cap, cur, hv, hg, ?_, r⟩
    have hlt : g < w.heap.size := by
      rcases Nat.lt_or_ge g w.heap.size with hlt | hge
      · exact hlt
      · rw [Array.getElem?_eq_none hge] at hh; cases hh
    rw [hb.block g (by omega)]
    exact hh
theorem own_ne {w : World} {b1 b2 : Nat} {e1 e2 : TypeId} {s1 s2 : Nat} {v1 v2 : Value} {n1 n2 : Nat} {x1 x2 : List Value} (h1 : w.ownsRow b1 e1 s1 v1 n1 x1) (h2 : w.ownsRow b2 e2 s2 v2 n2 x2) (hne : e1 ≠ e2) : v1.ownBlock = none ∨ v1.ownBlock ≠ v2.ownBlock := by
  rcases h1.2 with ⟨rfl, _⟩ | ⟨g, cap, cur, rfl, _, hg, _⟩
  · exact .inl rfl
  · right
    rcases h2.2 with ⟨rfl, _⟩ | ⟨g', cap', cur', rfl, _, hg', _⟩
    · simp [Value.ownBlock]
    · simp only [Value.ownBlock, ne_eq, Option.some.injEq]
      rintro rfl
      rw [hg] at hg'
      simp at hg'
      exact hne hg'.2

/-- The rings gathered so far lie in rows of the call's own. -/
def OwnRings (w : World) (base : Nat) : List Value → List (List Pt) → Prop
  | [], [] => True
  | v :: vs, l :: ls => w.ownsRow base 26 2 v l.length (ringV l) ∧ OwnRings w base vs ls
  | _, _ => False

theorem OwnRings.below {w w' : World} {base C : Nat} (hb : Below C w w') (hC : w.heap.size ≤ C) : ∀ {vs : List Value} {ls : List (List Pt)}, OwnRings w base vs ls → OwnRings w' base vs ls
  | [], [], _ => trivial
  | _ :: _, _ :: _, h => ⟨own_below h.1 hb hC, OwnRings.below hb hC h.2⟩
theorem OwnRings.grown {w w' : World} {base b2 : Nat} {out : Value} {n : Nat} {xs : List Value} (ho : w.ownsRow b2 27 1 out n xs) (hg : w.grownBy w' out.ownBlock) : ∀ {vs : List Value} {ls : List (List Pt)}, OwnRings w base vs ls → OwnRings w' base vs ls
  | [], [], _ => trivial
  | _ :: _, _ :: _, h => ⟨h.1.kept hg (own_ne h.1 ho (by decide)), OwnRings.grown ho hg h.2⟩
theorem OwnRings.snoc {w : World} {base : Nat} {v : Value} {l : List Pt} (hv : w.ownsRow base 26 2 v l.length (ringV l)) : ∀ {vs : List Value} {ls : List (List Pt)}, OwnRings w base vs ls → OwnRings w base (vs ++ [v]) (ls ++ [l])
  | [], [], _ => ⟨hv, trivial⟩
  | _ :: _, _ :: _, h => ⟨h.1, OwnRings.snoc hv h.2⟩
theorem ringV_snoc (l : List Pt) (x y : Int) : ringV (l ++ [(x, y)]) = ringV l ++ [.int .i64 x, .int .i64 y] := by unfold ringV; simp
theorem info_ring : (Tryz.prog.info? 27).map (fun i => (i.zero, i.size, i.bytes)) = some (some (.slice none 0 0), 1, 24) := by kernel_rfl
/-- A literal slice owns its block. -/
theorem own_lit {w : World} {g n size : Nat} {e : TypeId} {cs : List Value} {base : Nat} (hg : w.heap[g]? = some (.cells cs.toArray e (0, 0))) (hb : base ≤ g) (hn : cs.length = n * size) (hm : n ≤ maxLen) :
    w.ownsRow base e size (.slice (some ⟨g, 0, none⟩) n n) n cs :=
  ⟨hn, .inr ⟨g, n, cs.toArray, rfl, hb, hg, Nat.le_refl _, hm, by simpa using hn, by rw [List.take_of_length_le (by simp; omega)]⟩⟩
theorem OwnRings.get {w : World} {base : Nat} : ∀ {vs : List Value} {ls : List (List Pt)}, OwnRings w base vs ls → ∀ i, i < ls.length → ∃ v, vs[i]? = some v ∧ w.ownsRow base 26 2 v (rg ls i).length (ringV (rg ls i))
  | [], [], _, i, hi => by simp at hi
  | v :: _, l :: _, h, 0, _ => ⟨v, rfl, h.1⟩
  | _ :: _, l :: ls, h, i + 1, hi => by
    obtain ⟨v, hv, ho⟩ := OwnRings.get h.2 i (by simpa using hi)
    exact ⟨v, hv, ho⟩
theorem ring_of_own {w : World} {base : Nat} {v : Value} {l : List Pt} (h : w.ownsRow base 26 2 v l.length (ringV l)) : ∃ ao c, v = .slice ao l.length c ∧ RingAt w w.heap.size ao l := by
  obtain ⟨ao, c, rfl, _, hc⟩ := own_form h
  refine ⟨ao, c, rfl, fun h0 => ?_⟩
  obtain ⟨g, rfl, _, hg, hcell⟩ := hc h0
  exact ringAt_cells hg hcell h0
theorem ring_at_own {w : World} {base n c : Nat} {ao : Option Addr} {l : List Pt} (hn : n = l.length) (h : w.ownsRow base 26 2 (.slice ao n c) n (ringV l)) : RingAt w w.heap.size ao l := by
  subst hn
  obtain ⟨ao', c', e, h2⟩ := ring_of_own h
  cases e
  exact h2
theorem ring_wider {w : World} {B C : Nat} {ao : Option Addr} {l : List Pt} (h : RingAt w B ao l) (hC : B ≤ C) : RingAt w C ao l := fun h0 => by
  obtain ⟨b, off, e, hlt, hc⟩ := h h0
  exact ⟨b, off, e, by omega, hc⟩
theorem rings_of_own {w : World} {base b2 n c : Nat} {ao : Option Addr} {vs : List Value} {ls : List (List Pt)} (h : w.ownsRow base 27 1 (.slice ao n c) n vs) (hO : OwnRings w b2 vs ls) (hn : n = ls.length) : RingsAt w w.heap.size ao ls := by
  intro h0
  obtain ⟨ao', c', e, _, hc⟩ := own_form h
  cases e
  obtain ⟨g, rfl, _, hg, hcell⟩ := hc (by omega)
  refine ⟨g, 0, rfl, hg, fun i hi => ?_⟩
  obtain ⟨v, hv, ho⟩ := hO.get i hi
  obtain ⟨ri, ci, rfl, hr⟩ := ring_of_own ho
  exact ⟨ri, ci, by rw [Nat.zero_add]; exact hcell i _ hv, hr⟩
end Go.Proofs.YtpkoapmpknbgoaaGreat.Po
namespace Go.Proofs.YtpkoapmpknbgoaaGreat
open Go.RowKit Go.Lib Wd Cv

/-- A ring whose corners lie near a point. -/
def RingR (X Y s : Int) (l : List (Int × Int)) : Prop := l.length ≤ 6 ∧ ∀ p ∈ l, (X ≤ p.1 ∧ p.1 < 1073741824 ∧ p.1 - X < 7 * s) ∧ Y ≤ p.2 ∧ p.2 < 1073741824 ∧ p.2 - Y < 7 * s
def RingsOK (X Y s : Int) (ls : List (List (Int × Int))) : Prop := ls.length ≤ 2 ∧ ∀ l ∈ ls, 3 ≤ l.length ∧ RingR X Y s l
theorem ring_part (x i s : Int) (hx : 0 ≤ x ∧ x < 1073741824) (hi : 0 ≤ i) (hs : 52 ≤ s) : ∃ A, i.tmod (7 * s) = A ∧ 0 ≤ A ∧ A < 7 * s ∧ ((7 * s : Int) == 0) = false ∧ x ≤ min (x + A) 1073741823 ∧ min (x + A) 1073741823 < 1073741824 ∧ min (x + A) 1073741823 - x < 7 * s := by
  have h1 := Int.emod_nonneg i (show 7 * s ≠ 0 by omega)
  have h2 := Int.emod_lt_of_pos i (show 0 < 7 * s by omega)
  rw [Int.tmod_eq_emod_of_nonneg hi]
  exact ⟨_, rfl, h1, h2, by simp; omega, by omega, by omega, by omega⟩
set_option maxRecDepth 100000 in
set_option maxHeartbeats 8000000 in
theorem rings_any (x y : Int) (ax : Option Addr) (nx cx : Nat) (z : Nat → Int) (R : Nat) (hR : R ≤ 12) (w : World) (hx : IntsAtK .i64 w w.heap.size ax nx z) (hnx : nx ≤ 1000000000000000) :
    Calls Tryz.prog 17 #[.int .i64 x, .int .i64 y, .slice ax nx cx, .int .i64 R] w fun e w' => ∃ v ls, e = .returned v ∧ RingsOK (x % 1073741824) (y % 1073741824) (sizeN (12 - R)) ls ∧ (∃ vs, w'.ownsRow w.heap.size 27 1 v ls.length vs ∧ Po.OwnRings w' w.heap.size vs ls) ∧ Below w.heap.size w w' := by
  obtain ⟨i0, hi, hz0, hz1, hz2⟩ := info_parts Po.info_ring
  obtain ⟨i1, hj, hy0, hy1, hy2⟩ := info_parts info_pt
  have HPT := Lib.hid (point_in x y w)
  have hxx : 0 ≤ x % 1073741824 ∧ x % 1073741824 < 1073741824 := by omega
  have hyy : 0 ≤ y % 1073741824 ∧ y % 1073741824 < 1073741824 := by omega
  generalize x % 1073741824 = X at *
  generalize y % 1073741824 = Y at *
  obtain ⟨sz, hsz⟩ : ∃ q, sizeN (12 - R) = q := ⟨_, rfl⟩
  rw [hsz]
  have HSZ := Lib.hid hsz
  clear hsz
  go_enter Tryz.func17, Tryz.ntmps17
  go_wp2_with fail
  refine HPT.out.mono ?_
  rintro e w1 ⟨rfl, hb1⟩
  have HW1 := Lib.hid hb1
  clear hb1 HPT
  go_upto_region 4 with (fail)
  go_loopw [9, 10] (fun sv iv wr => ∃ (i : Nat) (s : Int), R ≤ i ∧ i ≤ 12 ∧ sv = .int .i64 s ∧ iv = .int .i64 i ∧ wr = w1 ∧ Hid (s = sizeN (i - R))) (fun _ iv _ => 12 - (intOf iv).toNat)
  case atStart => exact ⟨R, 52, Nat.le_refl _, hR, rfl, rfl, rfl, by show _ = _; rw [Nat.sub_self]; rfl⟩
  case round =>
   obtain ⟨i, s, hRi, hi12, rfl, rfl, rfl, HS⟩ := hrel
   obtain ⟨s1, s2⟩ := sizeN_pos (m := i - R) (by omega)
   rw [← HS.out] at s1 s2
   by_cases hlt : i < 12
   · have hN : Hid (s * 8 / 3 = sizeN (i + 1 - R)) := by
       show _ = _
       rw [show i + 1 - R = (i - R) + 1 by omega, HS.out]; rfl
     have hi0 : (i : Int) < 12 := by omega
     clear HS
     go_wp2
     refine ⟨⟨i + 1, s * 8 / 3, by omega, by omega, rfl, by rw [show ((i + 1 : Nat) : Int) = (i : Int) + 1 by omega], trivial, hN.out⟩, by simp [intOf]; omega⟩
   have hie : i = 12 := by omega
   have hic : (i : Int) = 12 := by omega
   rw [hic]
   obtain ⟨w1, hw1e⟩ : ∃ W, W = wr := ⟨_, rfl⟩
   rw [← hw1e] at HW1 ⊢
   clear hw1e
   have hss : s = sz := by rw [HS.out, hie]; exact HSZ.out
   clear HS HSZ hRi hlt hi12 hie hic
   subst hss
   have z1 : ((7 * s : Int) == 0) = false := by simp; omega
   go_upto_region 9 with (fail)
   go_loopw [11, 12] (fun v a wr => ∃ (at0 k : Nat) (vs : List Value) (ls : List (List (Int × Int))), a = .int .i64 at0 ∧ at0 ≤ nx ∧ k ≤ 2 ∧ Hid (RingsOK X Y s ls ∧ k = ls.length) ∧ wr.ownsRow w.heap.size 27 1 v k vs ∧ Hid (Po.OwnRings wr w.heap.size vs ls) ∧ Below w.heap.size w wr) (fun _ a _ => nx - (intOf a).toNat)
   case atStart => exact ⟨0, 0, [], [], rfl, by omega, by omega, ⟨⟨by simp, by simp⟩, rfl⟩, World.ownsRow_nil _ _ _ _, trivial, HW1.out⟩
   case round =>
     obtain ⟨at0, k, vs, ls, rfl, hat, hk, HT, hown, HO, hbel⟩ := hrel
     by_cases hlt : at0 + 5 < nx
     · by_cases hk3 : k < 2
       · obtain ⟨b, off, rfl, hbB, hc⟩ := hx (by omega)
         obtain ⟨ao, co, rfl, hkc, hoc⟩ := own_form hown
         have c0 := (hbel.cell (p := ⟨b, off + at0, none⟩) (show b < w.heap.size by omega)).trans (hc at0 (by omega))
         generalize z at0 = za at c0
         have HC := Lib.hid hc
         have HOC := Lib.hid hoc
         have e3 : bits BinOp.and IntKind.i64 za 3 = za % 4 := i64_and_mask za 2 (by omega) 3 rfl
         have hsz := hbel.size
         obtain ⟨wo, hwo⟩ : ∃ wo : World, wo = wr := ⟨_, rfl⟩
         subst hwo
         clear hc hoc hx
         have q1 : decide ((at0 : Int) + 5 < (nx : Int)) = true := by simp; omega
         have q2 : decide ((k : Int) < 2) = true := by simp; omega
         go_wp2
         go_loopw [14, 12, 15] (fun lv a i wi => ∃ (j at1 : Nat) (lc : List (Int × Int)), i = .int .i64 j ∧ a = .int .i64 at1 ∧ at1 ≤ nx ∧ at0 + 2 * j = at1 ∧ j ≤ 6 ∧ Hid (RingR X Y s lc ∧ lc.length = j) ∧ wi.ownsRow wo.heap.size 26 2 lv j (Po.ringV lc) ∧ Below wo.heap.size wo wi) (fun _ _ i _ => 6 - (intOf i).toNat)
         case atStart => exact ⟨0, at0, [], rfl, rfl, by omega, by omega, by omega, ⟨⟨by simp, by simp⟩, rfl⟩, World.ownsRow_nil _ _ _ _, Below.refl _ _⟩
         case round =>
           obtain ⟨j, at1, lc, rfl, rfl, hat1, hje, hj6, HL, hlown, hni⟩ := hrel
           have hsi := hni.size
           have hni2 := hbel.trans (hni.mono hsz)
           by_cases hgo : (j : Int) < 3 + za % 4 ∧ at1 + 1 < nx
           · obtain ⟨hg1, hg2⟩ := hgo
             have d0 := (hni2.cell (p := ⟨b, off + at1, none⟩) (show b < w.heap.size by omega)).trans (HC.out at1 (by omega))
             have d1 := (hni2.cell (p := ⟨b, off + (at1 + 1), none⟩) (show b < w.heap.size by omega)).trans (HC.out (at1 + 1) (by omega))
             generalize z at1 = zx at d0
             generalize z (at1 + 1) = zy at d1
             have ex : bits BinOp.and IntKind.i64 zx 4294967295 = zx % 4294967296 := i64_and_mask zx 32 (by omega) 4294967295 rfl
             have ey : bits BinOp.and IntKind.i64 zy 4294967295 = zy % 4294967296 := i64_and_mask zy 32 (by omega) 4294967295 rfl
             obtain ⟨Ax, tx, m1, m2, _, u1, u2, u3⟩ := ring_part X (zx % 4294967296) s hxx (by omega) s1
             obtain ⟨Ay, ty, m3, m4, _, v1, v2, v3⟩ := ring_part Y (zy % 4294967296) s hyy (by omega) s1
             have HUV := Lib.hid (And.intro (And.intro u1 (And.intro u2 u3)) (And.intro v1 (And.intro v2 v3)))
             clear u1 u2 u3 v1 v2 v3
             obtain ⟨lao, lcap, rfl, _, _⟩ := own_form hlown
             have q3 : decide ((j : Int) < 3 + za % 4) = true := by simpa using hg1
             have q4 : decide ((at1 : Int) + 1 < (nx : Int)) = true := by simp; omega
             go_wp2_with (first | (with_reducible refine wp_region_lex (by kernel_rfl) (by kernel_rfl) ?_) | (with_reducible refine OnlyG.intro (by kernel_rfl) ?_) | (at_builtin; refine wpList_append_own _ rfl (.tmp 58) (.tmp 83) 27 rfl wo.heap.size 26 i1 (.agg #[.int .i64 0, .int .i64 0]) 2 16 Tryz.underlying27 hj hy0 hy1 hy2 rfl (by decide) _ _ _ rfl ((hlown.alloc _).drew) ⟨wr.heap.size, 0, none⟩ 1 1 [.int .i64 (min (X + Ax) 1073741823), .int .i64 (min (Y + Ay) 1073741823)] rfl rfl (cells_new_drew _ _ _ _ rfl) (by simp [Value.oneCell']) (by unfold maxLen; omega) (by omega) (by simp; omega) ?_; intro v' w1 hown1 hgrow _))
             go_roundw
             case rel =>
               rw [← Po.ringV_snoc] at hown1
               refine ⟨j + 1, at1 + 2, lc ++ [(min (X + Ax) 1073741823, min (Y + Ay) 1073741823)], by go_num, by go_num, by omega, by omega, by omega, ⟨⟨?_, ?_⟩, ?_⟩, hown1, below_append ((hni.alloc hsi _).drew) ((hlown.alloc _).drew) (by simp; omega) hgrow⟩
               · rw [List.length_append, HL.out.2]; simp; omega
               · intro p hp
                 rcases List.mem_append.1 hp with hp | hp
                 · exact HL.out.1.2 p hp
                 · obtain rfl : p = _ := by simpa using hp
                   exact HUV.out
               · rw [List.length_append, HL.out.2]; rfl
             case measure => simp [intOf] <;> omega
           · have hj1 : 1 ≤ j := by omega
             obtain ⟨lao, lcap, rfl, _, _⟩ := own_form hlown
             have hown' := Po.own_below hown hni (Nat.le_refl _)
             have hnx1 : nx ≤ 1000000000000000 := hnx
             have hgo2 : (j : Int) < 3 + za % 4 → ¬ ((at1 : Int) + 1 < nx) := fun h1 h2 => hgo ⟨h1, by omega⟩
             by_cases h3 : 3 ≤ j
             · by_cases hjz : (j : Int) < 3 + za % 4
               all_goals
                 (first | have hstop := hgo2 hjz | skip)
                 clear hgo2 hgo
                 go_wp2_with (first | (with_reducible refine wp_region_lex (by kernel_rfl) (by kernel_rfl) ?_) | (with_reducible refine OnlyG.intro (by kernel_rfl) ?_) | (at_builtin; refine wpList_append_own _ rfl (.tmp 90) (.tmp 92) 28 rfl w.heap.size 27 i0 (.slice none 0 0) 1 24 Tryz.underlying28 hi hz0 hz1 hz2 rfl (by decide) _ _ _ rfl (hown'.alloc _) ⟨wr.heap.size, 0, none⟩ 1 1 [.slice lao j lcap] rfl rfl (cells_new _ _ _ _ rfl) (by simp [Value.oneCell']) (by unfold maxLen; omega) (by omega) (by simp; omega) ?_; intro v' w1 hown1 hgrow _))
                 go_roundw
                 case rel =>
                   refine ⟨at1, k + 1, vs ++ [.slice lao j lcap], ls ++ [lc], rfl, by omega, by omega, ⟨⟨?_, ?_⟩, ?_⟩, hown1, ?_, below_append ((hbel.trans (hni.mono hsz)).alloc (by have := hni.size; omega) _) (hown'.alloc _) (by have := hni.size; simp; omega) hgrow⟩
                   · rw [List.length_append, ← HT.out.2]; simp; omega
                   · intro l hl
                     rcases List.mem_append.1 hl with hl | hl
                     · exact HT.out.1.2 l hl
                     · obtain rfl : l = lc := by simpa using hl
                       exact ⟨by rw [HL.out.2]; exact h3, HL.out.1⟩
                   · rw [List.length_append, ← HT.out.2]; rfl
                   · refine Po.OwnRings.grown (hown'.alloc _) hgrow (Po.OwnRings.snoc ?_ (Po.OwnRings.below ((Below.refl wr.heap.size wr).alloc (Nat.le_refl _) _) (Nat.le_refl _) (Po.OwnRings.below hni (Nat.le_refl _) HO.out)))
                     rw [HL.out.2]
                     exact own_base (hlown.alloc _) hsz
                 case measure => simp [intOf] <;> omega
             · exfalso
               by_cases hjz : (j : Int) < 3 + za % 4
               · have := hgo2 hjz; omega
               · omega
       · have q1 : decide ((at0 : Int) + 5 < (nx : Int)) = true := by simp; omega
         have q2 : decide ((k : Int) < 2) = false := by simp; omega
         obtain ⟨ao, co, rfl, _, _⟩ := own_form hown
         go_wp2
         go_ret
         exact ⟨_, ls, rfl, HT.out.1, ⟨vs, by rw [← HT.out.2]; exact hown, HO.out⟩, hbel⟩
     · have q1 : decide ((at0 : Int) + 5 < (nx : Int)) = false := by simp; omega
       obtain ⟨ao, co, rfl, _, _⟩ := own_form hown
       go_wp2
       go_ret
       exact ⟨_, ls, rfl, HT.out.1, ⟨vs, by rw [← HT.out.2]; exact hown, HO.out⟩, hbel⟩
end Go.Proofs.YtpkoapmpknbgoaaGreat
/- Plain laws: polygons that stand apart, and a hole. -/
namespace Go.Proofs.YtpkoapmpknbgoaaGreat.Po
open Go.RowKit

theorem bx_mono (l : List Pt) (s : Bx) : ∀ j, j ≤ l.length → (bxR l s j).a ≤ s.a ∧ (bxR l s j).b ≤ s.b ∧ s.c ≤ (bxR l s j).c ∧ s.d ≤ (bxR l s j).d ∧
    ∀ i, i < j → (bxR l s j).a ≤ px l i ∧ px l i ≤ (bxR l s j).c ∧ (bxR l s j).b ≤ py l i ∧ py l i ≤ (bxR l s j).d
  | 0, _ => ⟨Int.le_refl _, Int.le_refl _, Int.le_refl _, Int.le_refl _, fun i hi => by omega⟩
  | j + 1, h => by
    obtain ⟨i1, i2, i3, i4, ih⟩ := bx_mono l s j (by omega)
    rw [bxR_succ]
    generalize bxR l s j = t at *
    unfold bstep
    dsimp only
    refine ⟨by omega, by omega, by omega, by omega, fun i hi => ?_⟩
    by_cases e : i = j
    · subst e; omega
    · have := ih i (by omega); omega
theorem bxTo_mono (ls : List (List Pt)) : ∀ k, ∀ i, i < k → ∀ j, j < (rg ls i).length → (bxTo ls k).a ≤ px (rg ls i) j ∧ px (rg ls i) j ≤ (bxTo ls k).c ∧ (bxTo ls k).b ≤ py (rg ls i) j ∧ py (rg ls i) j ≤ (bxTo ls k).d
  | 0, i, hi, _, _ => by omega
  | k + 1, i, hi, j, hj => by
    obtain ⟨i1, i2, i3, i4, ih⟩ := bx_mono (rg ls k) (bxTo ls k) _ (Nat.le_refl _)
    rw [bxTo_succ]
    by_cases e : i = k
    · subst e; exact ih j hj
    · have := bxTo_mono ls k i (by omega) j hj
      omega
theorem ring_below {l : List Pt} {x y : Int} (h : ∀ p ∈ l, y < p.2) : crR l x y l.length = false ∧ onR l x y l.length = false := by
  constructor
  · rw [crR_congr l x y l.length (fun _ => false) (fun i hi => by
      have g1 := h _ (px_mem hi)
      have g2 := h _ (px_mem (next_lt hi))
      unfold crEl crE
      dsimp only at g1 g2
      rw [if_neg (by omega), if_neg (by omega)])]
    exact fold_false _
  · unfold onR
    rw [List.any_eq_false]
    intro i hi
    have hi : i < l.length := by simpa using hi
    unfold onEl
    rw [on_far (.inr (.inr (.inl ⟨h _ (px_mem hi), h _ (px_mem (next_lt hi))⟩)))]
    simp
theorem ring_above {l : List Pt} {x y : Int} (h : ∀ p ∈ l, p.2 < y) : crR l x y l.length = false ∧ onR l x y l.length = false := by
  constructor
  · rw [crR_congr l x y l.length (fun _ => false) (fun i hi => by
      have g1 := h _ (px_mem hi)
      have g2 := h _ (px_mem (next_lt hi))
      unfold crEl crE
      dsimp only at g1 g2
      rw [if_neg (by omega), if_neg (by omega)])]
    exact fold_false _
  · unfold onR
    rw [List.any_eq_false]
    intro i hi
    have hi : i < l.length := by simpa using hi
    unfold onEl
    rw [on_far (.inr (.inr (.inr ⟨h _ (px_mem hi), h _ (px_mem (next_lt hi))⟩)))]
    simp
theorem mem_px {l : List Pt} {p : Pt} (h : p ∈ l) : ∃ j, j < l.length ∧ px l j = p.1 ∧ py l j = p.2 := by
  obtain ⟨j, hj, e⟩ := List.getElem_of_mem h
  exact ⟨j, hj, by unfold px; simp [List.getD_eq_getElem?_getD, hj, e], by unfold py; simp [List.getD_eq_getElem?_getD, hj, e]⟩
/-- A polygon of the world. -/
def RgsOK (ls : List (List Pt)) : Prop := (0 < ls.length ∧ ls.length ≤ 2) ∧ ∀ l ∈ ls, (3 ≤ l.length ∧ l.length ≤ 12) ∧ ∀ p ∈ l, Wd1 p.1 ∧ Wd1 p.2
theorem RgsOK.all {ls : List (List Pt)} (h : RgsOK ls) : ∀ l ∈ ls, 3 ≤ l.length ∧ l.length ≤ 12 ∧ AllIn l := fun l hl => by
  have := h.2 l hl
  exact ⟨this.1.1, this.1.2, fun p hp => by have := this.2 p hp; unfold Wd1 at this; exact ⟨this.1.1, this.1.2, this.2.1, this.2.2⟩⟩
theorem RgsOK.check {ls : List (List Pt)} (h : RgsOK ls) : checkF ls = 0 := check_ok (c := 12) h.1.1 (by have := h.1.2; omega) (by have := h.1.2; omega) h.all
theorem RgsOK.near {ls : List (List Pt)} (h : RgsOK ls) {x y : Int} (hx : Wd2 x) (hy : Wd2 y) : nearF ls x y = true := near_ok h.check hx hy
theorem box_all {ls : List (List Pt)} (h : RgsOK ls) : ∀ l ∈ ls, ∀ p ∈ l, (boxF ls).a ≤ p.1 ∧ p.1 ≤ (boxF ls).c ∧ (boxF ls).b ≤ p.2 ∧ p.2 ≤ (boxF ls).d := fun l hl p hp => by
  unfold boxF
  rw [if_pos h.check]
  obtain ⟨i, hi, e⟩ := List.getElem_of_mem hl
  obtain ⟨j, hj, e1, e2⟩ := mem_px hp
  have er : rg ls i = l := by unfold rg; simp [List.getD_eq_getElem?_getD, hi, e]
  have := bxTo_mono ls ls.length i hi j (by rw [er]; exact hj)
  rw [er, e1, e2] at this
  exact this
def Bd (s : Bx) (x0 y0 x1 y1 : Int) : Prop := x0 ≤ s.a ∧ y0 ≤ s.b ∧ s.c ≤ x1 ∧ s.d ≤ y1 ∧ s.a ≤ s.c ∧ s.b ≤ s.d
theorem bxR_bd {l : List Pt} {x0 y0 x1 y1 : Int} (hl : ∀ p ∈ l, (x0 ≤ p.1 ∧ p.1 ≤ x1) ∧ y0 ≤ p.2 ∧ p.2 ≤ y1) {s : Bx} (h : Bd s x0 y0 x1 y1) : ∀ j, j ≤ l.length → Bd (bxR l s j) x0 y0 x1 y1
  | 0, _ => h
  | j + 1, hj => by
    have ih := bxR_bd hl h j (by omega)
    have hp := hl _ (px_mem (l := l) (j := j) (by omega))
    rw [bxR_succ]
    generalize bxR l s j = t at *
    unfold Bd bstep at *
    dsimp only at *
    omega
theorem box_within {ls : List (List Pt)} (h : RgsOK ls) {x0 y0 x1 y1 : Int} (hl : ∀ l ∈ ls, ∀ p ∈ l, (x0 ≤ p.1 ∧ p.1 ≤ x1) ∧ y0 ≤ p.2 ∧ p.2 ≤ y1) : Bd (boxF ls) x0 y0 x1 y1 := by
  unfold boxF
  rw [if_pos h.check]
  have hm : ∀ k, k < ls.length → rg ls k ∈ ls := fun k hk => by unfold rg; simp [List.getD_eq_getElem?_getD, hk]
  have h0 : Bd (bx0 ls) x0 y0 x1 y1 := by
    have hm0 := hm 0 h.1.1
    have := hl _ hm0 _ (px_mem (l := rg ls 0) (j := 0) (by have := (h.2 _ hm0).1.1; omega))
    unfold Bd bx0
    dsimp only at *
    omega
  have : ∀ k, k ≤ ls.length → Bd (bxTo ls k) x0 y0 x1 y1 := by
    intro k
    induction k with
    | zero => intro _; exact h0
    | succ k ih =>
      intro hk
      rw [bxTo_succ]
      exact bxR_bd (hl _ (hm k (by omega))) (ih (by omega)) _ (Nat.le_refl _)
  exact this _ (Nat.le_refl _)
/-- A ring that lies in a box, and a point that does not. -/
theorem ring_out {l : List Pt} (h0 : 0 < l.length) (hl : AllIn l) {x0 y0 x1 y1 x y : Int} (hp : ∀ p ∈ l, (x0 ≤ p.1 ∧ p.1 ≤ x1) ∧ y0 ≤ p.2 ∧ p.2 ≤ y1) (hx : Wd2 x) (hy : Wd2 y) (ho : ¬ ((x0 ≤ x ∧ x ≤ x1) ∧ y0 ≤ y ∧ y ≤ y1)) : crR l x y l.length = false ∧ onR l x y l.length = false := by
  by_cases k1 : x < x0
  · exact ring_right hl h0 hx hy fun p h => by have := hp p h; omega
  · by_cases k2 : x1 < x
    · exact ring_left hl hx hy fun p h => by have := hp p h; omega
    · by_cases k3 : y < y0
      · exact ring_below fun p h => by have := hp p h; omega
      · exact ring_above fun p h => by have := hp p h; omega
theorem in_one {l : List Pt} (h : RgsOK [l]) {x y : Int} (hx : Wd2 x) (hy : Wd2 y) : insideF [l] x y = (onR l x y l.length || crR l x y l.length) := by
  unfold insideF
  rw [h.near hx hy, one_on, one_cr, Bool.true_and]
theorem in_two {l m : List Pt} (h : RgsOK [l, m]) {x y : Int} (hx : Wd2 x) (hy : Wd2 y) : insideF [l, m] x y = ((onR l x y l.length || onR m x y m.length) || (crR l x y l.length != crR m x y m.length)) := by
  unfold insideF
  rw [h.near hx hy, two_on, two_cr, Bool.true_and]
theorem RgsOK.fst {l m : List Pt} (h : RgsOK [l, m]) : RgsOK [l] := ⟨⟨by simp, by simp⟩, fun k hk => h.2 k (by rw [List.mem_singleton.1 hk]; simp)⟩
theorem RgsOK.snd {l m : List Pt} (h : RgsOK [l, m]) : RgsOK [m] := ⟨⟨by simp, by simp⟩, fun k hk => h.2 k (by rw [List.mem_singleton.1 hk]; simp)⟩
/-- The second ring counts for nothing at a point beside it. -/
theorem two_fst {l m : List Pt} (h : RgsOK [l, m]) {x y : Int} (hx : Wd2 x) (hy : Wd2 y) (hm : crR m x y m.length = false ∧ onR m x y m.length = false) : insideF [l, m] x y = insideF [l] x y := by
  rw [in_two h hx hy, in_one h.fst hx hy, hm.1, hm.2]; simp
theorem two_snd {l m : List Pt} (h : RgsOK [l, m]) {x y : Int} (hx : Wd2 x) (hy : Wd2 y) (hl : crR l x y l.length = false ∧ onR l x y l.length = false) : insideF [l, m] x y = insideF [m] x y := by
  rw [in_two h hx hy, in_one h.snd hx hy, hl.1, hl.2]; simp
/-- What is inside of a ring lies in its box. -/
theorem one_box {l : List Pt} (h : RgsOK [l]) {x y : Int} (hx : Wd2 x) (hy : Wd2 y) (hi : insideF [l] x y = true) : ((boxF [l]).a ≤ x ∧ x ≤ (boxF [l]).c) ∧ (boxF [l]).b ≤ y ∧ y ≤ (boxF [l]).d := by
  rw [in_one h hx hy] at hi
  have hml : l ∈ [l] := by simp
  have hall := h.all l hml
  refine Decidable.byContradiction fun ho => ?_
  have hr := ring_out (by omega) hall.2.2 (fun p hp => by have := box_all h l hml p hp; omega) hx hy ho
  rw [hr.1, hr.2] at hi
  cases hi
end Go.Proofs.YtpkoapmpknbgoaaGreat.Po
namespace Go.Proofs.YtpkoapmpknbgoaaGreat
open Go.RowKit Go.Lib Wd Cv

theorem up_len {A B : List Int} (hA : Up A) (hB : Up B) (h : ∀ x, x ∈ A → x ∈ B) : A.length ≤ B.length := by
  have e : A = B.filter (fun x => decide (x ∈ A)) := hA.ext (filter_up hB _) fun x => by
    rw [List.mem_filter, decide_eq_true_eq]
    exact ⟨fun hx => ⟨h x hx, hx⟩, fun hx => hx.2⟩
  rw [e]
  exact List.length_filter_le _ _
theorem blo_bd {ls : List (List (Int × Int))} {x0 y0 x1 y1 : Int} (h : Po.Bd (Po.boxF ls) x0 y0 x1 y1) : x0 ≤ (blo ls).1 ∧ y0 ≤ (blo ls).2 ∧ (bhi ls).1 ≤ x1 ∧ (bhi ls).2 ≤ y1 ∧ (blo ls).1 ≤ (bhi ls).1 ∧ (blo ls).2 ≤ (bhi ls).2 := h
theorem world_bd {ls : List (List (Int × Int))} (h : Po.RgsOK ls) : Po.Bd (Po.boxF ls) 0 0 1073741823 1073741823 := Po.box_within h fun l hl p hp => by
  have := (h.2 l hl).2 p hp
  unfold Po.Wd1 at this
  omega
theorem ch_rings {R : Nat} (hR : R ≤ 12) {ls : List (List (Int × Int))} (h : Po.RgsOK ls) : chE (blo ls) (bhi ls) R = 0 := by
  obtain ⟨h1, h2, h3, h4, h5, h6⟩ := blo_bd (world_bd h)
  exact ch_in hR ((worldB_iff _ _).2 (by omega)) ((worldB_iff _ _).2 (by omega)) h5 h6
theorem inB_wd {ls : List (List (Int × Int))} (h : Po.RgsOK ls) {p : E2} (hp : inB (blo ls) (bhi ls) p = true) : Po.Wd2 p.1 ∧ Po.Wd2 p.2 := by
  obtain ⟨h1, h2, h3, h4, h5, h6⟩ := blo_bd (world_bd h)
  have := (inB_iff _ _ _).1 hp
  unfold Po.Wd2
  omega
theorem inB_box {ls : List (List (Int × Int))} {p : E2} : inB (blo ls) (bhi ls) p = true ↔ ((Po.boxF ls).a ≤ p.1 ∧ p.1 ≤ (Po.boxF ls).c) ∧ (Po.boxF ls).b ≤ p.2 ∧ p.2 ≤ (Po.boxF ls).d := by
  rw [inB_iff]
  unfold blo bhi
  exact ⟨fun h => ⟨⟨h.1, h.2.1⟩, h.2.2⟩, fun h => ⟨h.1.1, h.1.2, h.2⟩⟩
/-- Two rings, one on the left of the other: a polygon of both has the cells of each. -/
theorem fil_apart {R : Nat} {a b : List (Int × Int)} (hab : Po.RgsOK [a, b]) {c : Int} (h1 : ∀ p ∈ a, p.1 < c) (h2 : ∀ p ∈ b, c ≤ p.1) {P Q C : List Int} (hP : IsFil R [a] P) (hQ : IsFil R [b] Q) (hC : IsFil R [a, b] C) :
    setF (P ++ Q) = C ∧ C.length = P.length + Q.length := by
  have ha := hab.fst
  have hb := hab.snd
  have wa := Po.box_within ha (x0 := 0) (y0 := 0) (x1 := c - 1) (y1 := 1073741823) fun l hl p hp => by
    rw [List.mem_singleton.1 hl] at hp
    have := (ha.2 a (by simp)).2 p hp
    have := h1 p hp
    unfold Po.Wd1 at *
    omega
  have wb := Po.box_within hb (x0 := c) (y0 := 0) (x1 := 1073741823) (y1 := 1073741823) fun l hl p hp => by
    rw [List.mem_singleton.1 hl] at hp
    have := (hb.2 b (by simp)).2 p hp
    have := h2 p hp
    unfold Po.Wd1 at *
    omega
  have wab1 := Po.box_within ha fun l hl p hp => by
    rw [List.mem_singleton.1 hl] at hp
    have := Po.box_all hab a (by simp) p hp
    exact ⟨⟨this.1, this.2.1⟩, this.2.2⟩
  have wab2 := Po.box_within hb fun l hl p hp => by
    rw [List.mem_singleton.1 hl] at hp
    have := Po.box_all hab b (by simp) p hp
    exact ⟨⟨this.1, this.2.1⟩, this.2.2⟩
  have outb : ∀ x y : Int, x < c → Po.Wd2 x → Po.Wd2 y → Po.crR b x y b.length = false ∧ Po.onR b x y b.length = false := fun x y hx k1 k2 =>
    Po.ring_right (hab.all b (by simp)).2.2 (by have := (hab.2 b (by simp)).1.1; omega) k1 k2 fun p hp => by have := h2 p hp; omega
  have outa : ∀ x y : Int, c ≤ x → Po.Wd2 x → Po.Wd2 y → Po.crR a x y a.length = false ∧ Po.onR a x y a.length = false := fun x y hx k1 k2 =>
    Po.ring_left (hab.all a (by simp)).2.2 k1 k2 fun p hp => by have := h1 p hp; omega
  unfold Po.Bd at wa wb wab1 wab2
  have hmem : ∀ x, x ∈ setF (P ++ Q) ↔ x ∈ C := fun x => by
    rw [setF_mem, List.mem_append, hP.2.1, hQ.2.1, hC.2.1]
    unfold FilW
    constructor
    · rintro (⟨z, g1, g2, g3, g4⟩ | ⟨z, g1, g2, g3, g4⟩)
      · obtain ⟨k1, k2⟩ := inB_wd ha g2
        rw [inB_box] at g2
        refine ⟨z, g1, inB_box.2 (by omega), ?_, g4⟩
        rw [Po.two_fst hab k1 k2 (outb _ _ (by omega) k1 k2)]
        exact g3
      · obtain ⟨k1, k2⟩ := inB_wd hb g2
        rw [inB_box] at g2
        refine ⟨z, g1, inB_box.2 (by omega), ?_, g4⟩
        rw [Po.two_snd hab k1 k2 (outa _ _ (by omega) k1 k2)]
        exact g3
    · rintro ⟨z, g1, g2, g3, g4⟩
      obtain ⟨k1, k2⟩ := inB_wd hab g2
      by_cases hc : (atE (12 - R) z).1 < c
      · rw [Po.two_fst hab k1 k2 (outb _ _ hc k1 k2)] at g3
        exact .inl ⟨z, g1, inB_box.2 (Po.one_box ha k1 k2 g3), g3, g4⟩
      · rw [Po.two_snd hab k1 k2 (outa _ _ (by omega) k1 k2)] at g3
        exact .inr ⟨z, g1, inB_box.2 (Po.one_box hb k1 k2 g3), g3, g4⟩
  have hset := Up.ext (setF_up _) hC.1 hmem
  refine ⟨hset, ?_⟩
  rw [← hset]
  refine up_disjoint hP.1 hQ.1 fun x hx hy => ?_
  rw [hP.2.1] at hx
  rw [hQ.2.1] at hy
  obtain ⟨z, g1, g2, g3, rfl⟩ := hx
  obtain ⟨z', g5, g6, g7, g8⟩ := hy
  have hz : z = z' := (word_inj g1 g5 (by omega)).2
  subst hz
  rw [inB_box] at g2 g6
  omega
/-- A box within a box. -/
theorem fil_hole {R : Nat} {x0 y0 x1 y1 u0 v0 u1 v1 : Int} (hx : 0 ≤ x0 ∧ x1 < 1073741824) (hy : 0 ≤ y0 ∧ y1 < 1073741824) (hu : x0 ≤ u0 ∧ u0 ≤ u1 ∧ u1 ≤ x1) (hv : y0 ≤ v0 ∧ v0 ≤ v1 ∧ v1 ≤ y1) {A H G : List Int}
    (hA : IsFil R [Po.qd x0 y0 x1 y1] A) (hH : IsFil R [Po.qd u0 v0 u1 v1] H) (hG : IsFil R [Po.qd x0 y0 x1 y1, Po.qd u0 v0 u1 v1] G) : (∀ x, x ∈ G → x ∈ A) ∧ (∀ x, x ∈ A → x ∉ H → x ∈ G) ∧ G.length ≤ A.length ∧ A.length ≤ G.length + H.length := by
  have hrg : Po.RgsOK [Po.qd x0 y0 x1 y1, Po.qd u0 v0 u1 v1] := ⟨⟨by simp, by simp⟩, fun l hl => by
    simp only [List.mem_cons, List.not_mem_nil, or_false] at hl
    rcases hl with rfl | rfl
    · refine ⟨⟨by simp [Po.qd], by simp [Po.qd]⟩, fun p hp => ?_⟩
      simp only [Po.qd, List.mem_cons, List.not_mem_nil, or_false] at hp
      unfold Po.Wd1
      rcases hp with rfl | rfl | rfl | rfl <;> dsimp only <;> omega
    · refine ⟨⟨by simp [Po.qd], by simp [Po.qd]⟩, fun p hp => ?_⟩
      simp only [Po.qd, List.mem_cons, List.not_mem_nil, or_false] at hp
      unfold Po.Wd1
      rcases hp with rfl | rfl | rfl | rfl <;> dsimp only <;> omega⟩
  obtain ⟨⟨b1, b2⟩, -⟩ := qd_box (x := x0) (y := y0) (u := x1) (v := y1) (by omega) (by omega) (by omega) (by omega) (by omega) (by omega)
  have bd := Po.box_within hrg (x0 := x0) (y0 := y0) (x1 := x1) (y1 := y1) fun l hl p hp => by
    simp only [List.mem_cons, List.not_mem_nil, or_false] at hl
    rcases hl with rfl | rfl
    · simp only [Po.qd, List.mem_cons, List.not_mem_nil, or_false] at hp
      rcases hp with rfl | rfl | rfl | rfl <;> dsimp only <;> omega
    · simp only [Po.qd, List.mem_cons, List.not_mem_nil, or_false] at hp
      rcases hp with rfl | rfl | rfl | rfl <;> dsimp only <;> omega
  have hcA := fil_box (x := x0) (y := y0) (u := x1) (v := y1) (by omega) (by omega) (by omega) (by omega) (by omega) (by omega) (.inl hA)
  have hcH := fil_box (x := u0) (y := v0) (u := u1) (v := v1) (by omega) (by omega) (by omega) (by omega) (by omega) (by omega) (.inl hH)
  have hGA : ∀ x, x ∈ G → x ∈ A := fun x hxG => by
    rw [hG.2.1] at hxG
    rw [hcA.2.1]
    obtain ⟨z, g1, g2, _, g4⟩ := hxG
    rw [inB_box] at g2
    unfold Po.Bd at bd
    exact ⟨z, g1, (inB_iff _ _ _).2 (by dsimp only; omega), g4⟩
  have hAG : ∀ x, x ∈ A → x ∉ H → x ∈ G := fun x hxA hxH => by
    rw [hcA.2.1] at hxA
    rw [hcH.2.1] at hxH
    rw [hG.2.1]
    obtain ⟨z, g1, g2, g4⟩ := hxA
    have g2' := (inB_iff _ _ _).1 g2
    dsimp only at g2'
    have k1 : Po.Wd2 (atE (12 - R) z).1 := by unfold Po.Wd2; omega
    have k2 : Po.Wd2 (atE (12 - R) z).2 := by unfold Po.Wd2; omega
    refine ⟨z, g1, ?_, ?_, g4⟩
    · have c1 := Po.box_all hrg (Po.qd x0 y0 x1 y1) (by simp) (x0, y0) (by simp [Po.qd])
      have c2 := Po.box_all hrg (Po.qd x0 y0 x1 y1) (by simp) (x1, y1) (by simp [Po.qd])
      dsimp only at c1 c2
      exact inB_box.2 (by omega)
    · have hout := Po.ring_out (l := Po.qd u0 v0 u1 v1) (x0 := u0) (y0 := v0) (x1 := u1) (y1 := v1) (by simp [Po.qd]) (hrg.all _ (by simp)).2.2 (fun p hp => by
        simp only [Po.qd, List.mem_cons, List.not_mem_nil, or_false] at hp
        rcases hp with rfl | rfl | rfl | rfl <;> dsimp only <;> omega) k1 k2 (fun hin => hxH ⟨z, g1, (inB_iff _ _ _).2 (by dsimp only; omega), g4⟩)
      rw [Po.two_fst hrg k1 k2 hout]
      exact (Po.quad_in (by unfold Po.Wd1; omega) (by unfold Po.Wd1; omega) (by unfold Po.Wd1; omega) (by unfold Po.Wd1; omega) ⟨g2'.1, g2'.2.1⟩ ⟨g2'.2.2.1, g2'.2.2.2⟩).1
  refine ⟨hGA, hAG, up_len hG.1 hA.1 hGA, ?_⟩
  have h1 : A.length = (A.filter fun x => decide (x ∈ G)).length + (A.filter fun x => !decide (x ∈ G)).length := by
    have := List.length_eq_countP_add_countP (fun x => decide (x ∈ G)) (l := A)
    rw [List.countP_eq_length_filter, List.countP_eq_length_filter] at this
    rw [this]
    congr 2
    exact List.filter_congr fun x _ => by simp
  have h2 := up_len (filter_up hA.1 (fun x => decide (x ∈ G))) hG.1 fun x hx => of_decide_eq_true (List.mem_filter.1 hx).2
  have h3 := up_len (filter_up hA.1 (fun x => !decide (x ∈ G))) hH.1 fun x hx => by
    obtain ⟨g1, g2⟩ := List.mem_filter.1 hx
    have g3 : x ∉ G := by simpa using g2
    exact Decidable.byContradiction fun h => g3 (hAG x g1 h)
  omega
end Go.Proofs.YtpkoapmpknbgoaaGreat
/- Polygons of one ring or two that lie in memory; fill.Fill of them. -/
namespace Go.Proofs.YtpkoapmpknbgoaaGreat
open Go.RowKit Go.Lib Wd Cv

theorem fill_t {R : Nat} (hR : R ≤ 12) {ls : List (List (Int × Int))} (hk : Po.RgsOK ls) (hw : (bhi ls).1 - (blo ls).1 ≤ 28 * sizeN (12 - R)) (hh : (bhi ls).2 - (blo ls).2 ≤ 28 * sizeN (12 - R)) {ao : Option Addr} {n c B : Nat} {W : World} (hB : B ≤ W.heap.size) (h : RgAt W B ao n ls) :
    Calls Tryz.prog 8 #[.slice ao n c, .int .i64 R] W fun e w' => ∃ L lo lc ln, IsFil R ls L ∧ e = .returned (.tuple #[.slice lo ln lc, .int .i64 0]) ∧ LAt w' lo ln lc L ∧ Below W.heap.size W w' := by
  refine (fill_few hB h hk.check (ch_rings hR hk) hw hh).mono ?_
  rintro e w' ⟨L, ao, c, n, hL, rfl, hn, ho, hb⟩
  exact ⟨L, ao, c, n, hL, rfl, LAt.of_own hn ho, hb⟩
theorem rg1 {W : World} {l : List (Int × Int)} {ri : Option Addr} {ci n B : Nat} (hn : l.length = n) (h : Po.RingAt W B ri l) (hB : B ≤ W.heap.size) (hl : n ≤ 1000) :
    RgAt (W.alloc (.cells #[.slice ri n ci] 27)) (W.heap.size + 1) (some ⟨W.heap.size, 0, none⟩) 1 [l] := by
  subst hn
  refine ⟨Po.rings_one ci 27 h hB, rfl, by decide, ?_⟩
  show Po.totTo [l] 1 ≤ _
  unfold Po.totTo
  simp; omega
theorem rings_two {W : World} {l m : List (Int × Int)} {ri rj : Option Addr} {ci cj B : Nat} {t : TypeId} (h1 : Po.RingAt W B ri l) (h2 : Po.RingAt W B rj m) (hB : B ≤ W.heap.size) :
    Po.RingsAt (W.alloc (.cells #[.slice ri l.length ci, .slice rj m.length cj] t)) (W.heap.size + 1) (some ⟨W.heap.size, 0, none⟩) [l, m] := by
  have hbb : Below W.heap.size W (W.alloc (.cells #[.slice ri l.length ci, .slice rj m.length cj] t)) := (Below.refl _ _).alloc (Nat.le_refl _) _
  intro _
  refine ⟨W.heap.size, 0, rfl, by omega, fun i hi => ?_⟩
  have hc := heap_new W (.cells #[.slice ri l.length ci, .slice rj m.length cj] t) _ rfl
  rcases (show i = 0 ∨ i = 1 by simp at hi; omega) with rfl | rfl
  · exact ⟨ri, ci, by rw [cell_of_row _ W.heap.size _ _ t (0, 0) hc]; rfl, Po.ring_wider (h1.below hbb hB) (by omega)⟩
  · exact ⟨rj, cj, by rw [cell_of_row _ W.heap.size _ _ t (0, 0) hc]; rfl, Po.ring_wider (h2.below hbb hB) (by omega)⟩
theorem rg2 {W : World} {l m : List (Int × Int)} {ri rj : Option Addr} {ci cj n1 n2 B : Nat} (hn1 : l.length = n1) (hn2 : m.length = n2) (h1 : Po.RingAt W B ri l) (h2 : Po.RingAt W B rj m) (hB : B ≤ W.heap.size) (hl1 : n1 ≤ 1000) (hl2 : n2 ≤ 1000) :
    RgAt (W.alloc (.cells #[.slice ri n1 ci, .slice rj n2 cj] 27)) (W.heap.size + 1) (some ⟨W.heap.size, 0, none⟩) 2 [l, m] := by
  subst hn1 hn2
  refine ⟨rings_two h1 h2 hB, rfl, by decide, ?_⟩
  show Po.totTo [l, m] 2 ≤ _
  unfold Po.totTo
  simp; omega
/-- A ring near a point, and the same moved to the right. -/
theorem near_ok1 {X Y s : Int} (hX : 0 ≤ X ∧ X < 268435456) (hY : 0 ≤ Y ∧ Y < 268435456) (hs : 52 ≤ s ∧ s ≤ 3000) {a : List (Int × Int)} (h3 : 3 ≤ a.length) (ha : RingR X Y s a) :
    Po.RgsOK [a, Po.moved (20 * s) 0 a] ∧ (∀ p ∈ a, p.1 < X + 20 * s) ∧ (∀ p ∈ Po.moved (20 * s) 0 a, X + 20 * s ≤ p.1) ∧
    ((∀ p ∈ a, (X ≤ p.1 ∧ p.1 ≤ X + 7 * s) ∧ Y ≤ p.2 ∧ p.2 ≤ Y + 7 * s) ∧ ∀ p ∈ Po.moved (20 * s) 0 a, (X + 20 * s ≤ p.1 ∧ p.1 ≤ X + 27 * s) ∧ Y ≤ p.2 ∧ p.2 ≤ Y + 7 * s) := by
  have hm : ∀ p ∈ Po.moved (20 * s) 0 a, ∃ q ∈ a, p = (q.1 + 20 * s, q.2 + 0) := fun p hp => by
    unfold Po.moved at hp
    obtain ⟨q, hq, e⟩ := List.mem_map.1 hp
    exact ⟨q, hq, e.symm⟩
  have h1 : ∀ p ∈ a, (X ≤ p.1 ∧ p.1 ≤ X + 7 * s) ∧ Y ≤ p.2 ∧ p.2 ≤ Y + 7 * s := fun p hp => by have := ha.2 p hp; omega
  have h2 : ∀ p ∈ Po.moved (20 * s) 0 a, (X + 20 * s ≤ p.1 ∧ p.1 ≤ X + 27 * s) ∧ Y ≤ p.2 ∧ p.2 ≤ Y + 7 * s := fun p hp => by
    obtain ⟨q, hq, rfl⟩ := hm p hp
    have := h1 q hq
    dsimp only
    omega
  refine ⟨⟨⟨by simp, by simp⟩, fun l hl => ?_⟩, fun p hp => by have := h1 p hp; omega, fun p hp => by have := h2 p hp; omega, h1, h2⟩
  simp only [List.mem_cons, List.not_mem_nil, or_false] at hl
  rcases hl with rfl | rfl
  · exact ⟨⟨h3, by have := ha.1; omega⟩, fun p hp => by have := h1 p hp; unfold Po.Wd1; omega⟩
  · exact ⟨⟨by rw [Po.moved_length]; exact h3, by rw [Po.moved_length]; have := ha.1; omega⟩, fun p hp => by have := h2 p hp; unfold Po.Wd1; omega⟩
theorem wide_ok {ls : List (List (Int × Int))} (hk : Po.RgsOK ls) {x0 y0 x1 y1 d : Int} (h : ∀ l ∈ ls, ∀ p ∈ l, (x0 ≤ p.1 ∧ p.1 ≤ x1) ∧ y0 ≤ p.2 ∧ p.2 ≤ y1) (hx : x1 - x0 ≤ d) (hy : y1 - y0 ≤ d) : (bhi ls).1 - (blo ls).1 ≤ d ∧ (bhi ls).2 - (blo ls).2 ≤ d := by
  obtain ⟨h1, h2, h3, h4, h5, h6⟩ := blo_bd (Po.box_within hk h)
  omega
theorem size4 {m : Nat} (hm : m ≤ 4) : 52 ≤ sizeN m ∧ sizeN m ≤ 3000 := by
  rcases (show m = 0 ∨ m = 1 ∨ m = 2 ∨ m = 3 ∨ m = 4 by omega) with rfl | rfl | rfl | rfl | rfl <;> decide
end Go.Proofs.YtpkoapmpknbgoaaGreat
/- fill.Fill of one ring and of two rings from a literal of them. -/
namespace Go.Proofs.YtpkoapmpknbgoaaGreat
open Go.RowKit Go.Lib Wd Cv

theorem fill_one {R : Nat} (hR : R ≤ 12) {l : List (Int × Int)} (hk : Po.RgsOK [l]) {x0 y0 x1 y1 : Int} (hp : ∀ p ∈ l, (x0 ≤ p.1 ∧ p.1 ≤ x1) ∧ y0 ≤ p.2 ∧ p.2 ≤ y1) (hx : x1 - x0 ≤ 28 * sizeN (12 - R)) (hy : y1 - y0 ≤ 28 * sizeN (12 - R)) {W0 : World} {ri : Option Addr} {n ci : Nat} (hn : l.length = n) (hl : n ≤ 1000) (h : Po.RingAt W0 W0.heap.size ri l) (W : World) (hW : Below W0.heap.size W0 W) :
    Calls Tryz.prog 8 #[.slice (some ⟨W.heap.size, 0, none⟩) 1 1, .int .i64 R] (W.alloc (.cells #[.slice ri n ci] 27)) fun e w' => ∃ L lo lc ln, IsFil R [l] L ∧ e = .returned (.tuple #[.slice lo ln lc, .int .i64 0]) ∧ LAt w' lo ln lc L ∧ Below W.heap.size W w' := by
  have hb : Below W.heap.size W (W.alloc (.cells #[.slice ri n ci] 27)) := (Below.refl _ _).alloc (Nat.le_refl _) _
  obtain ⟨w1, w2⟩ := wide_ok hk (fun m hm p hpp => hp p (by rw [List.mem_singleton.1 hm] at hpp; exact hpp)) hx hy
  refine (fill_t hR hk w1 w2 (B := W.heap.size + 1) (by rw [World.size_alloc]; exact Nat.le_refl _) (rg1 hn (h.below hW (Nat.le_refl _)) hW.size hl)).mono ?_
  rintro e w' ⟨L, ao, c, n, hL, rfl, hn, hb2⟩
  exact ⟨L, ao, c, n, hL, rfl, hn, hb.trans (hb2.mono hb.size)⟩
theorem fill_both {R : Nat} (hR : R ≤ 12) {l m : List (Int × Int)} (hk : Po.RgsOK [l, m]) {x0 y0 x1 y1 : Int} (hp : ∀ p ∈ l, (x0 ≤ p.1 ∧ p.1 ≤ x1) ∧ y0 ≤ p.2 ∧ p.2 ≤ y1) (hq : ∀ p ∈ m, (x0 ≤ p.1 ∧ p.1 ≤ x1) ∧ y0 ≤ p.2 ∧ p.2 ≤ y1) (hx : x1 - x0 ≤ 28 * sizeN (12 - R)) (hy : y1 - y0 ≤ 28 * sizeN (12 - R)) {W0 : World} {ri rj : Option Addr} {n1 n2 ci cj : Nat} (hn1 : l.length = n1) (hn2 : m.length = n2) (hl1 : n1 ≤ 1000) (hl2 : n2 ≤ 1000) (h1 : Po.RingAt W0 W0.heap.size ri l) (h2 : Po.RingAt W0 W0.heap.size rj m) (W : World) (hW : Below W0.heap.size W0 W) :
    Calls Tryz.prog 8 #[.slice (some ⟨W.heap.size, 0, none⟩) 2 2, .int .i64 R] (W.alloc (.cells #[.slice ri n1 ci, .slice rj n2 cj] 27)) fun e w' => ∃ L lo lc ln, IsFil R [l, m] L ∧ e = .returned (.tuple #[.slice lo ln lc, .int .i64 0]) ∧ LAt w' lo ln lc L ∧ Below W.heap.size W w' := by
  have hb : Below W.heap.size W (W.alloc (.cells #[.slice ri n1 ci, .slice rj n2 cj] 27)) := (Below.refl _ _).alloc (Nat.le_refl _) _
  obtain ⟨w1, w2⟩ := wide_ok hk (fun k hm p hpp => by
    simp only [List.mem_cons, List.not_mem_nil, or_false] at hm
    rcases hm with rfl | rfl
    · exact hp p hpp
    · exact hq p hpp) hx hy
  refine (fill_t hR hk w1 w2 (B := W.heap.size + 1) (by rw [World.size_alloc]; exact Nat.le_refl _) (rg2 hn1 hn2 (h1.below hW (Nat.le_refl _)) (h2.below hW (Nat.le_refl _)) hW.size hl1 hl2)).mono ?_
  rintro e w' ⟨L, ao, c, n, hL, rfl, hn, hb2⟩
  exact ⟨L, ao, c, n, hL, rfl, hn, hb.trans (hb2.mono hb.size)⟩
/-- The cells of a literal of four points. -/
theorem fill4 (a b c d e f g h : Int) (l : List (Nat × Value)) (hl : l = [(0, .agg #[.int .i64 a, .int .i64 b]), (1, .agg #[.int .i64 c, .int .i64 d]), (2, .agg #[.int .i64 e, .int .i64 f]), (3, .agg #[.int .i64 g, .int .i64 h])]) :
    Instr.fill (fun i => some (i * 2, 2)) ((Array.range (4 * 2)).map fun x => (Value.agg #[.int .i64 0, .int .i64 0]).cells[x % (Value.agg #[.int .i64 0, .int .i64 0]).cells.size]!) l = some #[.int .i64 a, .int .i64 b, .int .i64 c, .int .i64 d, .int .i64 e, .int .i64 f, .int .i64 g, .int .i64 h] := by
  subst hl
  go_simp
theorem qd_in {x0 y0 x1 y1 : Int} (hx : x0 ≤ x1) (hy : y0 ≤ y1) : ∀ p ∈ Po.qd x0 y0 x1 y1, (x0 ≤ p.1 ∧ p.1 ≤ x1) ∧ y0 ≤ p.2 ∧ p.2 ≤ y1 := fun p hp => by
  simp only [Po.qd, List.mem_cons, List.not_mem_nil, or_false] at hp
  rcases hp with rfl | rfl | rfl | rfl <;> dsimp only <;> omega
theorem qd_two {x0 y0 x1 y1 u0 v0 u1 v1 : Int} (hx : 0 ≤ x0 ∧ x1 < 1073741824) (hy : 0 ≤ y0 ∧ y1 < 1073741824) (hu : x0 ≤ u0 ∧ u0 ≤ u1 ∧ u1 ≤ x1) (hv : y0 ≤ v0 ∧ v0 ≤ v1 ∧ v1 ≤ y1) : Po.RgsOK [Po.qd x0 y0 x1 y1, Po.qd u0 v0 u1 v1] := ⟨⟨by simp, by simp⟩, fun l hl => by
  simp only [List.mem_cons, List.not_mem_nil, or_false] at hl
  rcases hl with rfl | rfl
  · refine ⟨⟨by simp [Po.qd], by simp [Po.qd]⟩, fun p hp => ?_⟩
    have := qd_in (by omega) (by omega) p hp
    unfold Po.Wd1
    omega
  · refine ⟨⟨by simp [Po.qd], by simp [Po.qd]⟩, fun p hp => ?_⟩
    have := qd_in (by omega) (by omega) p hp
    unfold Po.Wd1
    omega⟩
end Go.Proofs.YtpkoapmpknbgoaaGreat
