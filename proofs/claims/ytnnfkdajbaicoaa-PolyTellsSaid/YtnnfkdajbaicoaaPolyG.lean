/- What the laws on rings share: rings in new rows; the law's own look at four points; rings made of numbers. -/
import Derived.Test.YtnnfkdajbaicoaaPolyE
namespace Go.Proofs.Ytnnfkdajbaicoaa
open Go.RowKit

def ringV (l : List Pt) : List Value := l.flatMap fun p => [.int .i64 p.1, .int .i64 p.2]
theorem ringV_length (l : List Pt) : (ringV l).length = l.length * 2 := by
  unfold ringV; induction l with
  | nil => rfl
  | cons p l ih => simp [List.flatMap_cons] at ih ⊢; omega
theorem ringV_get : ∀ (l : List Pt) (k : Nat), k < l.length → (ringV l)[k * 2]? = some (.int .i64 (px l k)) ∧ (ringV l)[k * 2 + 1]? = some (.int .i64 (py l k))
  | [], k, h => by simp at h
  | p :: l, 0, _ => by simp [ringV, px, py]
  | p :: l, k + 1, h => by
    have ih := ringV_get l k (by simpa using h)
    have e1 : (k + 1) * 2 = k * 2 + 1 + 1 := by omega
    have e2 : (k + 1) * 2 + 1 = k * 2 + 1 + 1 + 1 := by omega
    rw [e2, e1]
    exact ih
theorem ringAt_cells {w : World} {B b : Nat} {l : List Pt} (hb : b < B) (hc : ∀ j u, (ringV l)[j]? = some u → w.cell? ⟨b, j, none⟩ = some u) : RingAt w B (some ⟨b, 0, none⟩) l :=
  fun _ => ⟨b, 0, rfl, hb, fun k hk => by
    obtain ⟨h1, h2⟩ := ringV_get l k hk
    simp only [Nat.zero_add]
    exact ⟨hc _ _ h1, hc _ _ h2⟩⟩
/-- A ring in a new block. -/
theorem ringAt_new (w : World) (l : List Pt) (t : TypeId) : RingAt (w.alloc (.cells (ringV l).toArray t)) (w.heap.size + 1) (some ⟨w.heap.size, 0, none⟩) l :=
  ringAt_cells (by omega) fun j u hu => by
    rw [cell_of_row _ w.heap.size j _ t (0, 0) (heap_new w _ _ rfl)]; simpa using hu

def awk : List Pt := [(0, 0), (2, 0), (2, 2), (0, 2)]
theorem awk1 : insideF [awk] 1 1 = true := by kernel_rfl
theorem awk2 : insideF [awk] 3 1 = false := by kernel_rfl
theorem awk3 : onF [awk] 2 1 = true := by kernel_rfl
theorem awk4 : area2F awk = 8 := by kernel_rfl
theorem awk5 : checkF [] = 1 := by kernel_rfl

set_option maxHeartbeats 1000000 in
theorem awake_any (w : World) : Calls Try.prog 11 #[] w fun e w' => e = .returned (.bool true) ∧ Below w.heap.size w w' := by
  have HR0 := ringAt_new w awk 27
  have HR := rings_one 4 26 HR0 (by simp)
  simp only [World.size_alloc] at HR
  have hs : ∀ w1 : World, Below (w.heap.size + 2) ((w.alloc (.cells (ringV awk).toArray 27)).alloc (.cells #[.slice (some ⟨w.heap.size, 0, none⟩) awk.length 4] 26)) w1 → w.heap.size + 2 ≤ w1.heap.size := fun w1 hb => by have := hb.size; simp at this; omega
  have hfin : ∀ w1 : World, Below (w.heap.size + 2) ((w.alloc (.cells (ringV awk).toArray 27)).alloc (.cells #[.slice (some ⟨w.heap.size, 0, none⟩) awk.length 4] 26)) w1 → Below w.heap.size w w1 := fun w1 hb =>
    (((Below.refl _ _).alloc (Nat.le_refl _) _).alloc (by simp) _).trans (hb.mono (by omega))
  have HI := Lib.hid fun (x y : Int) (w1 : World) (hb : Below (w.heap.size + 2) ((w.alloc (.cells (ringV awk).toArray 27)).alloc (.cells #[.slice (some ⟨w.heap.size, 0, none⟩) awk.length 4] 26)) w1) =>
    inside_any (some ⟨w.heap.size + 1, 0, none⟩) 1 [awk] x y w1 (w.heap.size + 2) (hs w1 hb) (HR.below hb (Nat.le_refl _)) (by decide) (by decide)
  have HO := Lib.hid fun (x y : Int) (w1 : World) (hb : Below (w.heap.size + 2) ((w.alloc (.cells (ringV awk).toArray 27)).alloc (.cells #[.slice (some ⟨w.heap.size, 0, none⟩) awk.length 4] 26)) w1) =>
    onall_any (some ⟨w.heap.size + 1, 0, none⟩) 1 [awk] x y w1 (w.heap.size + 2) (hs w1 hb) (HR.below hb (Nat.le_refl _)) (by decide) (by decide)
  have HA := Lib.hid fun (w1 : World) (hb : Below (w.heap.size + 2) ((w.alloc (.cells (ringV awk).toArray 27)).alloc (.cells #[.slice (some ⟨w.heap.size, 0, none⟩) awk.length 4] 26)) w1) =>
    area_any (some ⟨w.heap.size, 0, none⟩) 4 awk w1 (w.heap.size + 1) (by have := hs w1 hb; omega) ((HR0.below ((Below.refl (w.heap.size + 1) _).alloc (by simp) _) (Nat.le_refl _)).below hb (by omega)) (by decide)
  have HC := Lib.hid fun (w1 : World) => check_any none 0 [] w1 0 (Nat.zero_le _) (fun h => absurd h (by simp)) (by decide) (by decide)
  have HL := Lib.hid fun (w1 w2 : World) (hb : Below (w.heap.size + 2) ((w.alloc (.cells (ringV awk).toArray 27)).alloc (.cells #[.slice (some ⟨w.heap.size, 0, none⟩) awk.length 4] 26)) w1) (h2 : Below w1.heap.size w1 w2) =>
    below_later hb (hs w1 hb) h2
  have HF := Lib.hid hfin
  have a1 := awk1
  have a2 := awk2
  have a3 := awk3
  have a4 := awk4
  have a5 := awk5
  clear hs hfin HR HR0
  go_enter Try.func11, Try.ntmps11
  go_wp2_with (first
    | (go_at_call 12; refine (HI.out _ _ _ (by first | assumption | exact Below.refl _ _)).mono ?_; rintro e w' ⟨rfl, hb⟩; have hb' := HL.out _ _ (by first | assumption | exact Below.refl _ _) hb; clear hb)
    | (go_at_call 13; refine (HO.out _ _ _ (by assumption)).mono ?_; rintro e w' ⟨rfl, hb⟩; have hb' := HL.out _ _ (by assumption) hb; clear hb)
    | (go_at_call 15; refine (HA.out _ (by assumption)).mono ?_; rintro e w' ⟨rfl, hb⟩; have hb' := HL.out _ _ (by assumption) hb; clear hb)
    | (go_at_call 14; refine (HC.out _).mono ?_; rintro e w' ⟨rfl, hb⟩; have hb' := HL.out _ _ (by assumption) hb; clear hb))
  go_ret
  exact ⟨rfl, HF.out _ (by assumption)⟩

theorem own_below {w w' : World} {base : Nat} {e : TypeId} {size : Nat} {v : Value} {n : Nat} {xs : List Value} (h : w.ownsRow base e size v n xs) {C : Nat} (hb : Below C w w') (hC : w.heap.size ≤ C) : w'.ownsRow base e size v n xs := by
  refine ⟨h.1, ?_⟩
  rcases h.2 with h2 | ⟨g, cap, cur, hv, hg, hh, r⟩
  · exact .inl h2
  · refine .inr ⟨g, cap, cur, hv, hg, ?_, r⟩
    have hlt : g < w.heap.size := by
      rcases Nat.lt_or_ge g w.heap.size with hlt | hge
      · exact hlt
      · rw [Array.getElem?_eq_none hge] at hh; cases hh
    rw [hb.block g (by omega)]
    exact hh
theorem own_ne {w : World} {b1 b2 : Nat} {e1 e2 : TypeId} {s1 s2 : Nat} {v1 v2 : Value} {n1 n2 : Nat} {x1 x2 : List Value} (h1 : w.ownsRow b1 e1 s1 v1 n1 x1) (h2 : w.ownsRow b2 e2 s2 v2 n2 x2) (hne : e1 ≠ e2) : v1.ownBlock = none ∨ v1.ownBlock ≠ v2.ownBlock := by
  rcases h1.2 with ⟨rfl, _⟩ | ⟨g, cap, cur, rfl, _, hg, _⟩
  · exact .inl rfl
  · right
    rcases h2.2 with ⟨rfl, _⟩ | ⟨g', cap', cur', rfl, _, hg', _⟩
    · simp [Value.ownBlock]
    · simp only [Value.ownBlock, ne_eq, Option.some.injEq]
      rintro rfl
      rw [hg] at hg'
      simp at hg'
      exact hne hg'.2

/-- A ring whose corners lie near each other. -/
def TameR (size : Int) (l : List Pt) : Prop := l.length ≤ 6 ∧ ∀ p ∈ l, 500000 ≤ p.1 ∧ p.1 < 500000 + size ∧ 500000 ≤ p.2 ∧ p.2 < 500000 + size
def TameOK (size : Int) (ls : List (List Pt)) : Prop := ls.length ≤ 3 ∧ ∀ l ∈ ls, 3 ≤ l.length ∧ TameR size l
/-- The rings gathered so far lie in rows of the call's own. -/
def OwnRings (w : World) (base : Nat) : List Value → List (List Pt) → Prop
  | [], [] => True
  | v :: vs, l :: ls => w.ownsRow base 27 2 v l.length (ringV l) ∧ OwnRings w base vs ls
  | _, _ => False

theorem own_base {w : World} {base b2 : Nat} {e : TypeId} {size : Nat} {v : Value} {n : Nat} {xs : List Value} (h : w.ownsRow base e size v n xs) (hb : b2 ≤ base) : w.ownsRow b2 e size v n xs := by
  refine ⟨h.1, ?_⟩
  rcases h.2 with h2 | ⟨g, cap, cur, hv, hg, r⟩
  · exact .inl h2
  · exact .inr ⟨g, cap, cur, hv, by omega, r⟩
theorem OwnRings.below {w w' : World} {base C : Nat} (hb : Below C w w') (hC : w.heap.size ≤ C) : ∀ {vs : List Value} {ls : List (List Pt)}, OwnRings w base vs ls → OwnRings w' base vs ls
  | [], [], _ => trivial
  | _ :: _, _ :: _, h => ⟨own_below h.1 hb hC, OwnRings.below hb hC h.2⟩
theorem OwnRings.grown {w w' : World} {base b2 : Nat} {out : Value} {n : Nat} {xs : List Value} (ho : w.ownsRow b2 26 1 out n xs) (hg : w.grownBy w' out.ownBlock) : ∀ {vs : List Value} {ls : List (List Pt)}, OwnRings w base vs ls → OwnRings w' base vs ls
  | [], [], _ => trivial
  | _ :: _, _ :: _, h => ⟨h.1.kept hg (own_ne h.1 ho (by decide)), OwnRings.grown ho hg h.2⟩
theorem OwnRings.snoc {w : World} {base : Nat} {v : Value} {l : List Pt} (hv : w.ownsRow base 27 2 v l.length (ringV l)) : ∀ {vs : List Value} {ls : List (List Pt)}, OwnRings w base vs ls → OwnRings w base (vs ++ [v]) (ls ++ [l])
  | [], [], _ => ⟨hv, trivial⟩
  | _ :: _, _ :: _, h => ⟨h.1, OwnRings.snoc hv h.2⟩
theorem ringV_snoc (l : List Pt) (x y : Int) : ringV (l ++ [(x, y)]) = ringV l ++ [.int .i64 x, .int .i64 y] := by unfold ringV; simp
theorem info_ring : (Try.prog.info? 26).map (fun i => (i.zero, i.size, i.bytes)) = some (some (.slice none 0 0), 1, 24) := by kernel_rfl
theorem info_pt : (Try.prog.info? 27).map (fun i => (i.zero, i.size, i.bytes)) = some (some (.agg #[.int .i64 0, .int .i64 0]), 2, 16) := by kernel_rfl

set_option maxHeartbeats 2000000 in
theorem tame_any (ax : Option Addr) (nx cx : Nat) (z : Nat → Int) (size : Int) (w : World) (B : Nat) (hB : B ≤ w.heap.size) (hx : IntsAtK .i64 w B ax nx z) (hnx : nx ≤ 1000000000000000) (hs0 : 0 < size) (hs1 : size ≤ 1000000) :
    Calls Try.prog 10 #[.slice ax nx cx, .int .i64 size] w fun e w' => ∃ v ls, e = .returned v ∧ TameOK size ls ∧ (∃ vs, w'.ownsRow w.heap.size 26 1 v ls.length vs ∧ OwnRings w' w.heap.size vs ls) ∧ Below w.heap.size w w' := by
  obtain ⟨i0, hi, hz0, hz1, hz2⟩ := info_parts info_ring
  obtain ⟨i1, hj, hy0, hy1, hy2⟩ := info_parts info_pt
  go_enter Try.func10, Try.ntmps10
  go_wp2
  go_loopw [5, 6] (fun v a wr => ∃ (at0 k : Nat) (vs : List Value) (ls : List (List Pt)), a = .int .i64 at0 ∧ at0 ≤ nx ∧ k ≤ 3 ∧ Hid (TameOK size ls ∧ k = ls.length) ∧ wr.ownsRow w.heap.size 26 1 v k vs ∧ Hid (OwnRings wr w.heap.size vs ls) ∧ Below w.heap.size w wr) (fun _ a _ => nx - (intOf a).toNat)
  case atStart => exact ⟨0, 0, [], [], rfl, by omega, by omega, ⟨⟨by simp, by simp⟩, rfl⟩, World.ownsRow_nil _ _ _ _, trivial, Below.refl _ _⟩
  case round =>
    obtain ⟨at0, k, vs, ls, rfl, hat, hk, HT, hown, HO, hbel⟩ := hrel
    by_cases hlt : at0 + 5 < nx
    · by_cases hk3 : k < 3
      · obtain ⟨b, off, rfl, hbB, hc⟩ := hx (by omega)
        obtain ⟨ao, co, rfl, hkc, hoc⟩ := own_form hown
        have c0 := (hbel.cell (p := ⟨b, off + at0, none⟩) (show b < w.heap.size by omega)).trans (hc at0 (by omega))
        generalize z at0 = za at c0
        have HC := Lib.hid hc
        have HOC := Lib.hid hoc
        have e3 : bits BinOp.and IntKind.i64 za 3 = za % 4 := i64_and_mask za 2 (by omega) 3 rfl
        have hsz := hbel.size
        obtain ⟨wo, hwo⟩ : ∃ wo : World, wo = wr := ⟨_, rfl⟩
        subst hwo
        clear hc hoc hx
        have q1 : decide ((at0 : Int) + 5 < (nx : Int)) = true := by simp; omega
        have q2 : decide ((k : Int) < 3) = true := by simp; omega
        go_wp2
        go_loopw [8, 6, 9] (fun lv a i wi => ∃ (j at1 : Nat) (lc : List Pt), i = .int .i64 j ∧ a = .int .i64 at1 ∧ at1 ≤ nx ∧ at0 + 2 * j = at1 ∧ j ≤ 6 ∧ Hid (TameR size lc ∧ lc.length = j) ∧ wi.ownsRow wo.heap.size 27 2 lv j (ringV lc) ∧ Below wo.heap.size wo wi) (fun _ _ i _ => 6 - (intOf i).toNat)
        case atStart => exact ⟨0, at0, [], rfl, rfl, by omega, by omega, by omega, ⟨⟨by simp, by simp⟩, rfl⟩, World.ownsRow_nil _ _ _ _, Below.refl _ _⟩
        case round =>
          obtain ⟨j, at1, lc, rfl, rfl, hat1, hje, hj6, HL, hlown, hni⟩ := hrel
          have hsi := hni.size
          have hni2 := hbel.trans (hni.mono hsz)
          by_cases hgo : (j : Int) < 3 + za % 4 ∧ at1 + 1 < nx
          · obtain ⟨hg1, hg2⟩ := hgo
            have d0 := (hni2.cell (p := ⟨b, off + at1, none⟩) (show b < w.heap.size by omega)).trans (HC.out at1 (by omega))
            have d1 := (hni2.cell (p := ⟨b, off + (at1 + 1), none⟩) (show b < w.heap.size by omega)).trans (HC.out (at1 + 1) (by omega))
            generalize z at1 = zx at d0
            generalize z (at1 + 1) = zy at d1
            have ex : bits BinOp.and IntKind.i64 zx 4294967295 = zx % 4294967296 := i64_and_mask zx 32 (by omega) 4294967295 rfl
            have ey : bits BinOp.and IntKind.i64 zy 4294967295 = zy % 4294967296 := i64_and_mask zy 32 (by omega) 4294967295 rfl
            have bx : 0 ≤ (zx % 4294967296) % size ∧ (zx % 4294967296) % size < size := ⟨Int.emod_nonneg _ (by omega), Int.emod_lt_of_pos _ hs0⟩
            have byB : 0 ≤ (zy % 4294967296) % size ∧ (zy % 4294967296) % size < size := ⟨Int.emod_nonneg _ (by omega), Int.emod_lt_of_pos _ hs0⟩
            obtain ⟨bx0, bx1⟩ := bx
            obtain ⟨by0, by1⟩ := byB
            obtain ⟨lao, lcap, rfl, _, _⟩ := own_form hlown
            have q3 : decide ((j : Int) < 3 + za % 4) = true := by simpa using hg1
            have q4 : decide ((at1 : Int) + 1 < (nx : Int)) = true := by simp; omega
            go_wp2_with (first | (with_reducible refine wp_region_lex (by kernel_rfl) (by kernel_rfl) ?_) | (with_reducible refine OnlyG.intro (by kernel_rfl) ?_) | (at_builtin; refine wpList_append_own _ rfl (.tmp 38) (.tmp 57) 26 rfl wo.heap.size 27 i1 (.agg #[.int .i64 0, .int .i64 0]) 2 16 Try.underlying26 hj hy0 hy1 hy2 rfl (by decide) _ _ _ rfl ((hlown.alloc _).drew) ⟨wr.heap.size, 0, none⟩ 1 1 [.int .i64 (500000 + (zx % 4294967296) % size), .int .i64 (500000 + (zy % 4294967296) % size)] rfl rfl (cells_new_drew _ _ _ _ rfl) (by simp [Value.oneCell']) (by unfold maxLen; omega) (by omega) (by simp; omega) ?_; intro v' w1 hown1 hgrow _))
            go_roundw
            case rel =>
              rw [← ringV_snoc] at hown1
              refine ⟨j + 1, at1 + 2, lc ++ [(500000 + (zx % 4294967296) % size, 500000 + (zy % 4294967296) % size)], by go_num, by go_num, by omega, by omega, by omega, ⟨⟨?_, ?_⟩, ?_⟩, hown1, below_append ((hni.alloc hsi _).drew) ((hlown.alloc _).drew) (by simp; omega) hgrow⟩
              · rw [List.length_append, HL.out.2]; simp; omega
              · intro p hp
                rcases List.mem_append.1 hp with hp | hp
                · exact HL.out.1.2 p hp
                · obtain rfl : p = _ := by simpa using hp
                  exact ⟨by show (500000 : Int) ≤ 500000 + _; omega, by show 500000 + _ < 500000 + size; omega, by show (500000 : Int) ≤ 500000 + _; omega, by show 500000 + _ < 500000 + size; omega⟩
              · rw [List.length_append, HL.out.2]; rfl
            case measure => simp [intOf] <;> omega
          · have hj1 : 1 ≤ j := by omega
            obtain ⟨lao, lcap, rfl, _, _⟩ := own_form hlown
            have hown' := own_below hown hni (Nat.le_refl _)
            have hnx1 : nx ≤ 1000000000000000 := hnx
            have hgo2 : (j : Int) < 3 + za % 4 → ¬ ((at1 : Int) + 1 < nx) := fun h1 h2 => hgo ⟨h1, by omega⟩
            by_cases h3 : 3 ≤ j
            · by_cases hjz : (j : Int) < 3 + za % 4
              all_goals
                (first | have hstop := hgo2 hjz | skip)
                clear hgo2 hgo
                go_wp2_with (first | (with_reducible refine wp_region_lex (by kernel_rfl) (by kernel_rfl) ?_) | (with_reducible refine OnlyG.intro (by kernel_rfl) ?_) | (at_builtin; refine wpList_append_own _ rfl (.tmp 64) (.tmp 66) 23 rfl w.heap.size 26 i0 (.slice none 0 0) 1 24 Try.underlying23 hi hz0 hz1 hz2 rfl (by decide) _ _ _ rfl (hown'.alloc _) ⟨wr.heap.size, 0, none⟩ 1 1 [.slice lao j lcap] rfl rfl (cells_new _ _ _ _ rfl) (by simp [Value.oneCell']) (by unfold maxLen; omega) (by omega) (by simp; omega) ?_; intro v' w1 hown1 hgrow _))
                go_roundw
                case rel =>
                  refine ⟨at1, k + 1, vs ++ [.slice lao j lcap], ls ++ [lc], rfl, by omega, by omega, ⟨⟨?_, ?_⟩, ?_⟩, hown1, ?_, below_append ((hbel.trans (hni.mono hsz)).alloc (by have := hni.size; omega) _) (hown'.alloc _) (by have := hni.size; simp; omega) hgrow⟩
                  · rw [List.length_append, ← HT.out.2]; simp; omega
                  · intro l hl
                    rcases List.mem_append.1 hl with hl | hl
                    · exact HT.out.1.2 l hl
                    · obtain rfl : l = lc := by simpa using hl
                      exact ⟨by rw [HL.out.2]; exact h3, HL.out.1⟩
                  · rw [List.length_append, ← HT.out.2]; rfl
                  · refine OwnRings.grown (hown'.alloc _) hgrow (OwnRings.snoc ?_ (OwnRings.below ((Below.refl wr.heap.size wr).alloc (Nat.le_refl _) _) (Nat.le_refl _) (OwnRings.below hni (Nat.le_refl _) HO.out)))
                    rw [HL.out.2]
                    exact own_base (hlown.alloc _) hsz
                case measure => simp [intOf] <;> omega
            · exfalso
              by_cases hjz : (j : Int) < 3 + za % 4
              · have := hgo2 hjz; omega
              · omega
      · have q1 : decide ((at0 : Int) + 5 < (nx : Int)) = true := by simp; omega
        have q2 : decide ((k : Int) < 3) = false := by simp; omega
        obtain ⟨ao, co, rfl, _, _⟩ := own_form hown
        go_wp2
        go_ret
        exact ⟨_, ls, rfl, HT.out.1, ⟨vs, by rw [← HT.out.2]; exact hown, HO.out⟩, hbel⟩
    · have q1 : decide ((at0 : Int) + 5 < (nx : Int)) = false := by simp; omega
      obtain ⟨ao, co, rfl, _, _⟩ := own_form hown
      go_wp2
      go_ret
      exact ⟨_, ls, rfl, HT.out.1, ⟨vs, by rw [← HT.out.2]; exact hown, HO.out⟩, hbel⟩
end Go.Proofs.Ytnnfkdajbaicoaa
