/- The walk of the law PolyTogether. -/
import Derived.Test.YtnnfkdajbaicoaaPolyG
import Derived.Test.YtnnfkdajbaicoaaPolyP
namespace Go.Proofs.Ytnnfkdajbaicoaa.polyTogether
open Go.RowKit

theorem ring_of_own {w : World} {base : Nat} {v : Value} {l : List Pt} (h : w.ownsRow base 27 2 v l.length (ringV l)) : ∃ ao c, v = .slice ao l.length c ∧ RingAt w w.heap.size ao l := by
  obtain ⟨ao, c, rfl, _, hc⟩ := own_form h
  refine ⟨ao, c, rfl, fun h0 => ?_⟩
  obtain ⟨g, rfl, _, hg, hcell⟩ := hc h0
  exact ringAt_cells hg hcell h0
theorem ring_at_own {w : World} {base n c : Nat} {ao : Option Addr} {l : List Pt} (hn : n = l.length) (h : w.ownsRow base 27 2 (.slice ao n c) n (ringV l)) : RingAt w w.heap.size ao l := by
  subst hn
  obtain ⟨ao', c', e, h2⟩ := ring_of_own h
  cases e
  exact h2
theorem ring_wider {w : World} {B C : Nat} {ao : Option Addr} {l : List Pt} (h : RingAt w B ao l) (hC : B ≤ C) : RingAt w C ao l := fun h0 => by
  obtain ⟨b, off, e, hlt, hc⟩ := h h0
  exact ⟨b, off, e, by omega, hc⟩
/-- The world behind the law's four rows of rings. -/
def W3 (w : World) (a b : Value) : World := (((w.alloc (.cells #[a] 26)).alloc (.cells #[b] 26)).alloc (.cells #[a, b] 26)).alloc (.cells #[a, a] 26)
theorem W3_at (w : World) (a b : Value) : (W3 w a b).heap[w.heap.size]? = some (.cells #[a] 26) ∧ (W3 w a b).heap[w.heap.size + 1]? = some (.cells #[b] 26) ∧
    (W3 w a b).heap[w.heap.size + 2]? = some (.cells #[a, b] 26) ∧ (W3 w a b).heap[w.heap.size + 3]? = some (.cells #[a, a] 26) := by
  have e1 : ∀ (w : World) (o : Obj) (k : Nat), k < w.heap.size → (w.alloc o).heap[k]? = w.heap[k]? := fun w o k h => Below.heap_alloc w o k h
  unfold W3
  refine ⟨?_, ?_, ?_, ?_⟩
  · rw [e1 _ _ _ (by simp <;> omega), e1 _ _ _ (by simp <;> omega), e1 _ _ _ (by simp)]; exact heap_new _ _ _ rfl
  · rw [e1 _ _ _ (by simp <;> omega), e1 _ _ _ (by simp)]; exact heap_new _ _ _ (by simp)
  · rw [e1 _ _ _ (by simp)]; exact heap_new _ _ _ (by simp)
  · exact heap_new _ _ _ (by simp)
theorem rings_block {w : World} {B g : Nat} {cs : Array Value} {t : TypeId} {fr : Nat × Nat} {ls : List (List Pt)} (hg : w.heap[g]? = some (.cells cs t fr)) (hB : g < B)
    (h : ∀ i, i < ls.length → ∃ ri ci, cs[i]? = some (.slice ri (rg ls i).length ci) ∧ RingAt w B ri (rg ls i)) : RingsAt w B (some ⟨g, 0, none⟩) ls := fun _ =>
  ⟨g, 0, rfl, hB, fun i hi => by
    obtain ⟨ri, ci, h1, h2⟩ := h i hi
    exact ⟨ri, ci, by rw [Nat.zero_add, cell_of_row w g i cs t fr hg]; exact h1, h2⟩⟩

/-- A look at rings that lie in a row of the law's own, in whatever later world. -/
def Ins (f g n : Nat) (F : Int → Int → Bool) (X : World) (B : Nat) : Prop :=
  ∀ (x y : Int) (wx : World), Below B X wx → Calls Try.prog f #[.slice (some ⟨g, 0, none⟩) n n, .int .i64 x, .int .i64 y] wx fun e w' => e = .returned (.bool (F x y)) ∧ Below B X w'
theorem Ins.use {f g n : Nat} {F : Int → Int → Bool} {X : World} {B : Nat} (h : Ins f g n F X B) (x y : Int) (wx : World) (hb : Below B X wx) :
    Calls Try.prog f #[.slice (some ⟨g, 0, none⟩) n n, .int .i64 x, .int .i64 y] wx fun e w' => e = .returned (.bool (F x y)) ∧ Below B X w' := h x y wx hb

set_option maxHeartbeats 4000000 in
theorem walk {w : World} (a0 : Option Addr) (n0 c0 : Nat) (z0 : Nat → Int) (h0 : IntsAtK .i64 w w.heap.size a0 n0 z0) (_b0 : ∀ i, i < n0 → (Lit.int .i64 (z0 i)).wf = true) (s0 : n0 * 8 ≤ 140737488351232)
    (a1 : Int) (_w1 : (Lit.int .i64 a1).wf = true) (a2 : Int) (_w2 : (Lit.int .i64 a2).wf = true) :
    Calls Try.prog 3 #[.slice a0 n0 c0, .int .i64 a1, .int .i64 a2] w fun e w' => e = .returned (.bool true) ∧ Below w.heap.size w w' := by
  obtain ⟨i1, hj, hy0, hy1, hy2⟩ := info_parts info_pt
  go_enter Try.func3, Try.ntmps3
  go_wp2_with fail
  refine (tame_any _ _ _ z0 60 w w.heap.size (Nat.le_refl _) h0 (by omega) (by omega) (by omega)).mono ?_
  rintro e w1 ⟨v, ls, rfl, hT, ⟨vs, hown, hO⟩, hb⟩
  obtain ⟨ao, co, rfl, _, hcells⟩ := own_form hown
  obtain ⟨m, hm⟩ : ∃ m, ls.length = m := ⟨_, rfl⟩
  rw [hm]
  by_cases hm0 : m = 0
  · have hq0 : ((m : Int) == 0) = true := by simp [hm0]
    clear hm
    go_wp2_with (first | (go_at_call 11; refine (awake_any _).mono ?_; rintro e w' ⟨rfl, hbw⟩))
    go_ret
    exact ⟨rfl, below_later hb hb.size hbw⟩
  by_cases hn : 60 < n0
  · have hq0 : ((m : Int) == 0) = false := by simp; omega
    clear hm
    go_wp2_with (first | (go_at_call 11; refine (awake_any _).mono ?_; rintro e w' ⟨rfl, hbw⟩))
    go_ret
    exact ⟨rfl, below_later hb hb.size hbw⟩
  have hq0 : ((m : Int) == 0) = false := by simp; omega
  have hex : ∃ a g ra ca, ao = some ⟨g, 0, none⟩ ∧ w1.cell? ⟨g, 0, none⟩ = some (.slice ra a.length ca) ∧ RingAt w1 w1.heap.size ra a ∧ 3 ≤ a.length ∧ TameR 60 a := by
    cases ls with
    | nil => exact absurd hm.symm hm0
    | cons a ls =>
      cases vs with
      | nil => exact hO.elim
      | cons v0 vs =>
        obtain ⟨g, e, _, hg, hcell⟩ := hcells (by simp)
        obtain ⟨ra, ca, rfl, hra⟩ := ring_of_own hO.1
        exact ⟨a, g, ra, ca, e, hcell 0 _ rfl, hra, hT.2 a (by simp)⟩
  obtain ⟨a, g, ra, ca, rfl, cr, hra, h3, hT1⟩ := hex
  clear hm hcells hO hown hT
  obtain ⟨n, hn1⟩ : ∃ n, a.length = n := ⟨_, rfl⟩
  have h6 := hT1.1
  rw [hn1] at cr h3 h6
  have HN : Hid (a.length = n) := hn1
  have hs1 := hb.size
  clear hn1
  go_wp2_with (first | (with_reducible refine wp_region_lex (by kernel_rfl) (by kernel_rfl) ?_) | (with_reducible refine OnlyG.intro (by kernel_rfl) ?_))
  go_loopw [9, 10] (fun v i wr => ∃ k : Nat, k ≤ n ∧ i = .int .i64 k ∧ wr.ownsRow w1.heap.size 27 2 v k (ringV ((moved 1000 0 a).take k)) ∧ Below w1.heap.size w1 wr) (fun _ i _ => n - (intOf i).toNat)
  case atStart => exact ⟨0, Nat.zero_le _, rfl, World.ownsRow_nil _ _ _ _, Below.refl _ _⟩
  case round =>
    obtain ⟨k, hk, rfl, hown, hnx⟩ := hrel
    have hsz := hnx.size
    by_cases hlt : k < n
    · obtain ⟨b, off, rfl, hbB, hc⟩ := hra.below hnx (Nat.le_refl _) (by rw [HN.out]; omega)
      have hkl : k < a.length := by rw [HN.out]; exact hlt
      obtain ⟨d0, d1⟩ := hc k hkl
      obtain ⟨t1, t2, t3, t4⟩ := hT1.2 _ (px_mem hkl)
      have HS : Hid (ringV ((moved 1000 0 a).take (k + 1)) = ringV ((moved 1000 0 a).take k) ++ [.int .i64 (px a k + 1000), .int .i64 (py a k)]) := by
        show _ = _
        rw [take_succ' _ k (0, 0) (by rw [moved_length]; exact hkl), show (moved 1000 0 a).getD k (0, 0) = (px (moved 1000 0 a) k, py (moved 1000 0 a) k) from rfl, ringV_snoc, (moved_at 1000 0 a hkl).1, (moved_at 1000 0 a hkl).2, Int.add_zero]
      dsimp only at t1 t2 t3 t4
      generalize px a k = x at d0 t1 t2 HS
      generalize py a k = y at d1 t3 t4 HS
      clear hc hkl
      obtain ⟨bo, bc, rfl, _, _⟩ := own_form hown
      go_wp2_with (first | (with_reducible refine wp_region_lex (by kernel_rfl) (by kernel_rfl) ?_) | (with_reducible refine OnlyG.intro (by kernel_rfl) ?_) | (at_builtin; refine wpList_append_own _ rfl (.tmp 39) (.tmp 52) 26 rfl w1.heap.size 27 i1 (.agg #[.int .i64 0, .int .i64 0]) 2 16 Try.underlying26 hj hy0 hy1 hy2 rfl (by decide) _ _ _ rfl ((hown.alloc _).drew) ⟨wr.heap.size, 0, none⟩ 1 1 [.int .i64 (x + 1000), .int .i64 y] rfl rfl (cells_new_drew _ _ _ _ rfl) (by simp [Value.oneCell']) (by unfold maxLen; omega) (by omega) (by simp; omega) ?_; intro v' w2 hown1 hgrow _))
      go_roundw
      case rel => exact ⟨k + 1, by omega, by go_num, by rw [HS.out]; exact hown1, below_append ((hnx.alloc hsz _).drew) ((hown.alloc _).drew) (by simp; omega) hgrow⟩
      case measure => simp [intOf] <;> omega
    · obtain rfl : k = n := by omega
      obtain ⟨bo, bc, rfl, _, _⟩ := own_form hown
      have hbr : RingAt wr wr.heap.size bo (moved 1000 0 a) := by
        refine ring_at_own (base := w1.heap.size) (n := k) (c := bc) (by rw [moved_length]; exact HN.out.symm) ?_
        rw [List.take_of_length_le (by rw [moved_length, HN.out]; omega)] at hown
        exact hown
      have har := hra.below hnx (Nat.le_refl _)
      have har2 : RingAt wr wr.heap.size ra a := fun h0 => by obtain ⟨b, off, e, hl, hc⟩ := har h0; exact ⟨b, off, e, by omega, hc⟩
      have hml : (moved 1000 0 a).length = k := by rw [moved_length]; exact HN.out
      have hal : a.length = k := HN.out
      -- the four rows
      have hW3 : Below wr.heap.size wr (W3 wr (.slice ra k ca) (.slice bo k bc)) := (((((Below.refl wr.heap.size wr).alloc (Nat.le_refl _) _).alloc (by simp) _).alloc (by simp; omega) _).alloc (by simp; omega) _)
      have hS3 : (W3 wr (.slice ra k ca) (.slice bo k bc)).heap.size = wr.heap.size + 4 := by simp [W3]
      have r1 : RingsAt (W3 wr (.slice ra k ca) (.slice bo k bc)) (wr.heap.size + 4) (some ⟨wr.heap.size, 0, none⟩) [a] :=
        rings_block (W3_at wr _ _).1 (by omega) (by
          intro i hi
          obtain rfl : i = 0 := by simpa using hi
          exact ⟨ra, ca, by show _ = some (Value.slice ra a.length ca); rw [hal]; rfl, ring_wider (har2.below hW3 (Nat.le_refl _)) (by omega)⟩)
      have r2 : RingsAt (W3 wr (.slice ra k ca) (.slice bo k bc)) (wr.heap.size + 4) (some ⟨wr.heap.size + 1, 0, none⟩) [moved 1000 0 a] :=
        rings_block (W3_at wr _ _).2.1 (by omega) (by
          intro i hi
          obtain rfl : i = 0 := by simpa using hi
          exact ⟨bo, bc, by show _ = some (Value.slice bo (moved 1000 0 a).length bc); rw [hml]; rfl, ring_wider (hbr.below hW3 (Nat.le_refl _)) (by omega)⟩)
      have r3 : RingsAt (W3 wr (.slice ra k ca) (.slice bo k bc)) (wr.heap.size + 4) (some ⟨wr.heap.size + 2, 0, none⟩) [a, moved 1000 0 a] :=
        rings_block (W3_at wr _ _).2.2.1 (by omega) (by
          intro i hi
          rcases (show i = 0 ∨ i = 1 by simp at hi; omega) with rfl | rfl
          · exact ⟨ra, ca, by show _ = some (Value.slice ra a.length ca); rw [hal]; rfl, ring_wider (har2.below hW3 (Nat.le_refl _)) (by omega)⟩
          · exact ⟨bo, bc, by show _ = some (Value.slice bo (moved 1000 0 a).length bc); rw [hml]; rfl, ring_wider (hbr.below hW3 (Nat.le_refl _)) (by omega)⟩)
      have r4 : RingsAt (W3 wr (.slice ra k ca) (.slice bo k bc)) (wr.heap.size + 4) (some ⟨wr.heap.size + 3, 0, none⟩) [a, a] :=
        rings_block (W3_at wr _ _).2.2.2 (by omega) (by
          intro i hi
          rcases (show i = 0 ∨ i = 1 by simp at hi; omega) with rfl | rfl
          · exact ⟨ra, ca, by show _ = some (Value.slice ra a.length ca); rw [hal]; rfl, ring_wider (har2.below hW3 (Nat.le_refl _)) (by omega)⟩
          · exact ⟨ra, ca, by show _ = some (Value.slice ra a.length ca); rw [hal]; rfl, ring_wider (har2.below hW3 (Nat.le_refl _)) (by omega)⟩)
      have hst : ∀ wx, Below (wr.heap.size + 4) (W3 wr (.slice ra k ca) (.slice bo k bc)) wx → wr.heap.size + 4 ≤ wx.heap.size := fun wx hb => by have := hb.size; omega
      have I1 : Ins 12 wr.heap.size 1 (insideF [a]) (W3 wr (.slice ra k ca) (.slice bo k bc)) (wr.heap.size + 4) := fun x y wx hb =>
        (inside_any _ 1 [a] x y wx _ (hst wx hb) (r1.below hb (Nat.le_refl _)) (by simp) (by simp [totTo]; omega)).mono fun e w' ⟨he, h2⟩ => ⟨he, below_later hb (hst wx hb) h2⟩
      have I2 : Ins 12 (wr.heap.size + 1) 1 (insideF [moved 1000 0 a]) (W3 wr (.slice ra k ca) (.slice bo k bc)) (wr.heap.size + 4) := fun x y wx hb =>
        (inside_any _ 1 [moved 1000 0 a] x y wx _ (hst wx hb) (r2.below hb (Nat.le_refl _)) (by simp) (by simp [totTo]; omega)).mono fun e w' ⟨he, h2⟩ => ⟨he, below_later hb (hst wx hb) h2⟩
      have I3 : Ins 12 (wr.heap.size + 2) 2 (insideF [a, moved 1000 0 a]) (W3 wr (.slice ra k ca) (.slice bo k bc)) (wr.heap.size + 4) := fun x y wx hb =>
        (inside_any _ 2 [a, moved 1000 0 a] x y wx _ (hst wx hb) (r3.below hb (Nat.le_refl _)) (by simp) (by simp [totTo]; omega)).mono fun e w' ⟨he, h2⟩ => ⟨he, below_later hb (hst wx hb) h2⟩
      have I4 : Ins 12 (wr.heap.size + 3) 2 (insideF [a, a]) (W3 wr (.slice ra k ca) (.slice bo k bc)) (wr.heap.size + 4) := fun x y wx hb =>
        (inside_any _ 2 [a, a] x y wx _ (hst wx hb) (r4.below hb (Nat.le_refl _)) (by simp) (by simp [totTo]; omega)).mono fun e w' ⟨he, h2⟩ => ⟨he, below_later hb (hst wx hb) h2⟩
      have O1 : Ins 13 wr.heap.size 1 (onF [a]) (W3 wr (.slice ra k ca) (.slice bo k bc)) (wr.heap.size + 4) := fun x y wx hb =>
        (onall_any _ 1 [a] x y wx _ (hst wx hb) (r1.below hb (Nat.le_refl _)) (by simp) (by simp [totTo]; omega)).mono fun e w' ⟨he, h2⟩ => ⟨he, below_later hb (hst wx hb) h2⟩
      have HL := Lib.hid fun (wx wy : World) (hb : Below (wr.heap.size + 4) (W3 wr (.slice ra k ca) (.slice bo k bc)) wx) (h2 : Below wx.heap.size wx wy) => below_later hb (hst wx hb) h2
      have HF : Hid (∀ wx, Below (wr.heap.size + 4) (W3 wr (.slice ra k ca) (.slice bo k bc)) wx → Below w.heap.size w wx) := fun wx hbx =>
        ((hb.trans (hnx.mono hs1)).trans (hW3.mono (by omega))).trans (hbx.mono (by omega))
      have HTG := Lib.hid fun (u v i : Int) hu hv hi => together a hT1.2 (by omega) (by omega) u v i hu hv hi
      have eu : bits BinOp.and IntKind.i64 a1 65535 = a1 % 65536 := i64_and_mask a1 16 (by omega) 65535 rfl
      have ev : bits BinOp.and IntKind.i64 a2 65535 = a2 % 65536 := i64_and_mask a2 16 (by omega) 65535 rfl
      have hp0 : 0 ≤ a1 % 65536 := Int.emod_nonneg _ (by omega)
      have hq0' : 0 ≤ a2 % 65536 := Int.emod_nonneg _ (by omega)
      generalize a1 % 65536 = p at eu hp0
      generalize a2 % 65536 = q at ev hq0'
      clear r1 r2 r3 r4 hst hbr har har2 hml hal hown hW3 hS3 hT1 HN hra cr
      go_wp2_with (first | (with_reducible refine wp_region_lex (by kernel_rfl) (by kernel_rfl) ?_) | (with_reducible refine OnlyG.intro (by kernel_rfl) ?_))
      go_loopw [17] (fun i wx => ∃ j : Nat, j ≤ 2 ∧ i = .int .i64 j ∧ Below (wr.heap.size + 4) (W3 wr (.slice ra k ca) (.slice bo k bc)) wx) (fun i _ => 2 - (intOf i).toNat)
      case atStart => exact ⟨0, by omega, rfl, Below.refl _ _⟩
      case round =>
        obtain ⟨j, hj2, rfl, hbx⟩ := hrel
        by_cases hj1 : j < 2
        · obtain ⟨E1, E2, E3⟩ := HTG.out (500000 + p % 62 - 1) (500000 + q % 62 - 1) j (by omega) (by omega) (by omega)
          generalize hpp : insideF [a] (500000 + p % 62 - 1 + 1000 * (j : Int)) (500000 + q % 62 - 1) = P1 at E1
          generalize hqq : insideF [moved 1000 0 a] (500000 + p % 62 - 1 + 1000 * (j : Int)) (500000 + q % 62 - 1) = Q1 at E1 E3
          generalize hoo : onF [a] (500000 + p % 62 - 1 + 1000 * (j : Int)) (500000 + q % 62 - 1) = O at E2
          have E3' := E3.symm
          clear E3
          cases P1 <;> cases Q1 <;> cases O
          all_goals
            simp only [Bool.or_true, Bool.or_false] at E1
            go_wp2_with (first
              | (go_at_call 12; (with_reducible refine (Ins.use I3 _ _ _ ?_).mono ?_); assumption; rintro e w' ⟨rfl, hb'⟩)
              | (go_at_call 12; (with_reducible refine (Ins.use I1 _ _ _ ?_).mono ?_); assumption; rintro e w' ⟨rfl, hb'⟩)
              | (go_at_call 12; (with_reducible refine (Ins.use I2 _ _ _ ?_).mono ?_); assumption; rintro e w' ⟨rfl, hb'⟩)
              | (go_at_call 12; (with_reducible refine (Ins.use I4 _ _ _ ?_).mono ?_); assumption; rintro e w' ⟨rfl, hb'⟩)
              | (go_at_call 13; (with_reducible refine (Ins.use O1 _ _ _ ?_).mono ?_); assumption; rintro e w' ⟨rfl, hb'⟩))
            go_roundw
            case rel => exact ⟨j + 1, by omega, by go_num, by assumption⟩
            case measure => simp [intOf] <;> omega
        · go_wp2_with (first | (go_at_call 11; refine (awake_any _).mono ?_; rintro e w' ⟨rfl, hbw⟩))
          go_ret
          exact ⟨rfl, HF.out _ (HL.out _ _ hbx hbw)⟩
end Go.Proofs.Ytnnfkdajbaicoaa.polyTogether
