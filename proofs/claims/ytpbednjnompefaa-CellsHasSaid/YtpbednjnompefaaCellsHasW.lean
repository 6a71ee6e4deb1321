/- The walk of the law CellsHas. -/
import Derived.Test.YtpbednjnompefaaSlF
namespace Go.Proofs.Ytpbednjnompefaa.cellsHas
open Go.RowKit Go.Lib Go.Sort

theorem words_of_ints {w : World} {B n : Nat} {ao : Option Addr} {z : Nat → Int} (h : IntsAtK .u64 w B ao n z) : WordsAt w B ao ((List.range n).map z) := fun h0 => by
  obtain ⟨b, off, e, hlt, hc⟩ := h (by simpa using h0)
  refine ⟨b, off, e, hlt, fun i hi => ?_⟩
  have hi' : i < n := by simpa using hi
  rw [hc i hi', List.getD_eq_getElem?_getD, List.getElem?_map, List.getElem?_range hi']
  rfl
theorem has_union (a b : List Int) (x : Int) (ha : a.length ≤ 100) (hb : b.length ≤ 100) : hasF (unionL a b) x = (hasF a x || hasF b x) := by
  have hl := setF_length (a ++ b)
  rw [List.length_append] at hl
  rw [Bool.eq_iff_iff, Bool.or_eq_true, hasF_iff, hasF_iff, hasF_iff]
  unfold unionL toldF
  rw [if_neg (by omega), if_neg (by omega), setF_mem, List.mem_append]
theorem has_meet (a b : List Int) (x : Int) (ha : a.length ≤ 100) (hb : b.length ≤ 100) : hasF (sideL (fun x => hasF (setF b) x) a b) x = (hasF a x && hasF b x) := by
  rw [Bool.eq_iff_iff, Bool.and_eq_true, hasF_iff, hasF_iff, hasF_iff]
  unfold sideL
  rw [if_neg (by omega), List.mem_filter, setF_mem, hasF_iff, setF_mem]
theorem has_minus (a b : List Int) (x : Int) (ha : a.length ≤ 100) (hb : b.length ≤ 100) : hasF (sideL (fun x => !hasF (setF b) x) a b) x = (hasF a x && !hasF b x) := by
  have h : hasF (setF b) x = hasF b x := by rw [Bool.eq_iff_iff, hasF_iff, hasF_iff, setF_mem]
  rw [Bool.eq_iff_iff, Bool.and_eq_true, hasF_iff, hasF_iff]
  unfold sideL
  rw [if_neg (by omega), List.mem_filter, setF_mem, h]
/-- Words that are looked at in whatever later world. -/
def HasV (ao : Option Addr) (n c : Nat) (F : Int → Bool) (X : World) (B : Nat) : Prop :=
  ∀ (x : Int) (wx : World), Below B X wx → Calls Try.prog 12 #[.slice ao n c, .int .u64 x] wx fun e w' => e = .returned (.bool (F x)) ∧ wx = w'
theorem hasV {ao : Option Addr} {c : Nat} {l : List Int} {X : World} {B : Nat} (h : WordsAt X B ao l) (hn : l.length ≤ 1000000000) : HasV ao l.length c (hasF l) X B := fun x wx hb =>
  uhas_any ao c l x wx B (h.below hb (Nat.le_refl _)) hn
theorem below_to {w w1 : World} {B C : Nat} (h : Below C w w1) (hB : B ≤ C) : Below B w w1 := h.mono hB

set_option maxRecDepth 100000 in
set_option maxHeartbeats 4000000 in
theorem core (ao bo : Option Addr) (c d : Nat) (a b : List Int) (x0 at0 : Int) (w : World) (ha : WordsAt w w.heap.size ao a) (hb : WordsAt w w.heap.size bo b)
    (za : ao = none → a.length = 0 ∧ c = 0) (zb : bo = none → b.length = 0 ∧ d = 0) (hna : a.length ≤ 17592186044404) (hnb : b.length ≤ 17592186044404) :
    Calls Try.prog 3 #[.slice ao a.length c, .slice bo b.length d, .int .u64 x0, .int .i64 at0] w fun e w' => e = .returned (.bool true) ∧ Below w.heap.size w w' := by
  have HAW := Lib.hid awake7_any
  by_cases hbig : 100 < a.length ∨ 100 < b.length
  · obtain ⟨na, hna'⟩ : ∃ n, a.length = n := ⟨_, rfl⟩
    obtain ⟨nb, hnb'⟩ : ∃ n, b.length = n := ⟨_, rfl⟩
    rw [hna', hnb'] at hbig ⊢
    rw [hna'] at hna
    rw [hnb'] at hnb
    clear ha hb za zb hna' hnb'
    by_cases h1 : 100 < na
    · have q1 : decide (100 < (na : Int)) = true := by simp; omega
      clear hbig
      go_enter Try.func3, Try.ntmps3
      go_wp2_with fail
      refine (HAW.out _).mono ?_
      rintro e w1 ⟨rfl, hb1⟩
      go_wp2
      go_ret
      exact ⟨rfl, hb1⟩
    · have q1 : decide (100 < (na : Int)) = false := by simp; omega
      have q2 : decide (100 < (nb : Int)) = true := by simp; omega
      clear hbig
      go_enter Try.func3, Try.ntmps3
      go_wp2_with fail
      refine (HAW.out _).mono ?_
      rintro e w1 ⟨rfl, hb1⟩
      go_wp2
      go_ret
      exact ⟨rfl, hb1⟩
  · have la : a.length ≤ 100 := by omega
    have lb : b.length ≤ 100 := by omega
    clear hbig hna hnb
    have HUL := Lib.hid fun x => has_union a b x la lb
    have HML := Lib.hid fun x => has_meet a b x la lb
    have HNL := Lib.hid fun x => has_minus a b x la lb
    have HU := Lib.hid (union_any ao bo c d a b w ha hb za zb (by omega) (by omega))
    have HM := Lib.hid fun w1 (h1 : Below w.heap.size w w1) => meet_any ao bo c d a b w1 ((ha.below h1 (Nat.le_refl _)).wider h1.size) ((hb.below h1 (Nat.le_refl _)).wider h1.size) (by omega) (by omega)
    have HN := Lib.hid fun w1 (h1 : Below w.heap.size w w1) => minus_any ao bo c d a b w1 ((ha.below h1 (Nat.le_refl _)).wider h1.size) ((hb.below h1 (Nat.le_refl _)).wider h1.size) (by omega) (by omega)
    have HHA := Lib.hid (hasV (c := c) ha (by omega))
    have HHB := Lib.hid (hasV (c := d) hb (by omega))
    have HA := Lib.hid ha
    have lu : (unionL a b).length ≤ 1000000000 := by
      unfold unionL toldF
      have hl := setF_length (a ++ b)
      rw [List.length_append] at hl
      rw [if_neg (by omega), if_neg (by omega)]
      omega
    have ls : ∀ p, (sideL p a b).length ≤ 1000000000 := fun p => by
      have h1 := List.length_filter_le p (setF a)
      have h2 := setF_length a
      unfold sideL
      rw [if_neg (by omega)]
      omega
    have LM := Lib.hid (ls fun x => hasF (setF b) x)
    have LN := Lib.hid (ls fun x => !hasF (setF b) x)
    clear ha hb za zb ls
    obtain ⟨na, hna⟩ : ∃ n, a.length = n := ⟨_, rfl⟩
    obtain ⟨nb, hnb⟩ : ∃ n, b.length = n := ⟨_, rfl⟩
    rw [hna] at HU HM HN HHA la ⊢
    rw [hnb] at HU HM HN HHB lb ⊢
    have HNA := Lib.hid hna
    clear hna hnb
    have q1 : decide (100 < (na : Int)) = false := by simp; omega
    have q2 : decide (100 < (nb : Int)) = false := by simp; omega
    go_enter Try.func3, Try.ntmps3
    go_wp2_with fail
    refine HU.out.mono ?_
    rintro e w1 ⟨uo, uc, rfl, hu, hb1⟩
    have HU1 := Lib.hid (hasV (c := uc) hu lu)
    have HB1 := Lib.hid hb1
    obtain ⟨nu, hnu⟩ : ∃ n, (unionL a b).length = n := ⟨_, rfl⟩
    obtain ⟨eu, heu⟩ : ∃ n, unionE a b = n := ⟨_, rfl⟩
    rw [hnu] at HU1 ⊢
    rw [heu]
    clear hu hb1 hnu heu lu
    go_wp2_with fail
    refine (HM.out _ HB1.out).mono ?_
    rintro e w2 ⟨mo, mc, rfl, hm, hb2⟩
    have HM1 := Lib.hid (hasV (c := mc) hm LM.out)
    have HB2 := Lib.hid (below_later HB1.out HB1.out.size hb2)
    have HB12 := Lib.hid hb2
    obtain ⟨nm, hnm⟩ : ∃ n, (sideL (fun x => hasF (setF b) x) a b).length = n := ⟨_, rfl⟩
    obtain ⟨em, hem⟩ : ∃ n, sideE a b = n := ⟨_, rfl⟩
    rw [hnm] at HM1 ⊢
    rw [hem]
    clear hm hb2 hnm hem
    go_wp2_with fail
    refine (HN.out _ HB2.out).mono ?_
    rintro e w3 ⟨no, nc, rfl, hn, hb3⟩
    have HN1 := Lib.hid (hasV (c := nc) hn LN.out)
    have HB3 := Lib.hid (below_later HB2.out HB2.out.size hb3)
    have HB23 := Lib.hid hb3
    obtain ⟨nn, hnn⟩ : ∃ n, (sideL (fun x => !hasF (setF b) x) a b).length = n := ⟨_, rfl⟩
    obtain ⟨en, hen⟩ : ∃ n, sideE a b = n := ⟨_, rfl⟩
    rw [hnn] at HN1 ⊢
    rw [hen]
    clear hn hb3 hnn hen
    -- what the five lists hold, in whatever world from here on
    have KA : Hid (HasV ao na c (hasF a) w3 w3.heap.size) := fun x wx h => HHA.out x wx (HB3.out.trans (below_to h HB3.out.size))
    have KB : Hid (HasV bo nb d (hasF b) w3 w3.heap.size) := fun x wx h => HHB.out x wx (HB3.out.trans (below_to h HB3.out.size))
    have KU : Hid (HasV uo nu uc (fun x => hasF a x || hasF b x) w3 w3.heap.size) := fun x wx h => by
      have h2 := below_later HB12.out HB12.out.size HB23.out
      have := HU1.out x wx (h2.trans (below_to h h2.size))
      rwa [HUL.out] at this
    have KM : Hid (HasV mo nm mc (fun x => hasF a x && hasF b x) w3 w3.heap.size) := fun x wx h => by
      have := HM1.out x wx (HB23.out.trans (below_to h HB23.out.size))
      rwa [HML.out] at this
    have KN : Hid (HasV no nn nc (fun x => hasF a x && !hasF b x) w3 w3.heap.size) := fun x wx h => by
      have := HN1.out x wx h
      rwa [HNL.out] at this
    clear HU1 HM1 HN1 HUL HML HNL HHA HHB HU HM HN LM LN HB1 HB2 HB12 HB23
    go_wp2
    go_loopw [2, 15] (fun x i wr => ∃ (k : Nat) (y : Int), k ≤ 2 ∧ i = .int .i64 k ∧ x = .int .u64 y ∧ Below w3.heap.size w3 wr) (fun _ i _ => 2 - (intOf i).toNat)
    case atStart => exact ⟨0, x0, by omega, rfl, rfl, Below.refl _ _⟩
    case round =>
      obtain ⟨k, y, hk, rfl, rfl, hbw⟩ := hrel
      have HBW := Lib.hid hbw
      clear hbw
      by_cases hlt : k < 2
      · have C1 := Lib.hid (KA.out y wr HBW.out)
        have C2 := Lib.hid (KB.out y wr HBW.out)
        have C3 := Lib.hid (show Calls Try.prog 12 #[.slice uo nu uc, .int .u64 y] wr fun e w' => e = .returned (.bool (hasF a y || hasF b y)) ∧ wr = w' from KU.out y wr HBW.out)
        have C4 := Lib.hid (show Calls Try.prog 12 #[.slice mo nm mc, .int .u64 y] wr fun e w' => e = .returned (.bool (hasF a y && hasF b y)) ∧ wr = w' from KM.out y wr HBW.out)
        have C5 := Lib.hid (show Calls Try.prog 12 #[.slice no nn nc, .int .u64 y] wr fun e w' => e = .returned (.bool (hasF a y && !hasF b y)) ∧ wr = w' from KN.out y wr HBW.out)
        generalize hasF a y = p at C1 C3 C4 C5
        generalize hasF b y = q at C2 C3 C4 C5
        have CB : Hid (Below w.heap.size w wr) := HB3.out.trans (below_to HBW.out HB3.out.size)
        obtain ⟨X, eX, hX0⟩ : ∃ p, bits BinOp.and IntKind.i64 at0 65535 = p ∧ 0 ≤ p := ⟨_, i64_and_mask at0 16 (by omega) 65535 rfl, Int.emod_nonneg _ (by omega)⟩
        have hlt' : decide ((k : Int) < 2) = true := by simp; omega
        cases p <;> cases q
        all_goals
          go_wp2_with fail
          refine C1.out.mono ?_
          rintro e w4 ⟨rfl, rfl⟩
          go_wp2_with fail
          refine C2.out.mono ?_
          rintro e w4 ⟨rfl, rfl⟩
          go_wp2_with fail
          refine C3.out.mono ?_
          rintro e w4 ⟨rfl, rfl⟩
          go_wp2_with fail
          refine C4.out.mono ?_
          rintro e w4 ⟨rfl, rfl⟩
          go_wp2_with fail
          refine C5.out.mono ?_
          rintro e w4 ⟨rfl, rfl⟩
          rcases Nat.eq_zero_or_pos na with hz | hpos
          · have z1 : decide (0 < na) = false := by simp; omega
            clear hz
            go_wp2_with fail
            go_roundw
            case rel => exact ⟨k + 1, y, by omega, by go_num, rfl, HBW.out⟩
            case measure => simp [intOf]; omega
          · obtain ⟨g, off, rfl, hg, hc⟩ := HA.out (by rw [HNA.out]; exact hpos)
            obtain ⟨m, rfl⟩ := Int.eq_ofNat_of_zero_le hX0
            have hm := Nat.mod_lt m hpos
            have c0 := (CB.out.cell (p := ⟨g, off + m % na, none⟩) hg).trans (hc (m % na) (by rw [HNA.out]; exact hm))
            have hg' := World.block_lt_of_cell? wr _ c0
            dsimp only at hg'
            generalize a.getD (m % na) 0 = v at c0
            clear hc
            go_wp2_with fail
            go_roundw
            case rel => exact ⟨k + 1, v, by omega, by go_num, rfl, HBW.out⟩
            case measure => simp [intOf]; omega
      · obtain rfl : k = 2 := by omega
        have CB := Lib.hid (HB3.out.trans (below_to HBW.out HB3.out.size))
        go_wp2_with fail
        refine (HAW.out _).mono ?_
        rintro e w4 ⟨rfl, hb4⟩
        have CB2 := below_later CB.out CB.out.size hb4
        clear hb4
        go_wp2
        go_ret
        exact ⟨rfl, CB2⟩

theorem walk {w : World} (a0 : Option Addr) (n0 c0 : Nat) (z0 : Nat → Int) (h0 : IntsAtK .u64 w w.heap.size a0 n0 z0) (_b0 : ∀ i, i < n0 → (Lit.int .u64 (z0 i)).wf = true) (s0 : n0 * 8 ≤ 140737488351232) (o0 : a0 = none → n0 = 0 ∧ c0 = 0)
    (a1 : Option Addr) (n1 c1 : Nat) (z1 : Nat → Int) (h1 : IntsAtK .u64 w w.heap.size a1 n1 z1) (_b1 : ∀ i, i < n1 → (Lit.int .u64 (z1 i)).wf = true) (s1 : n1 * 8 ≤ 140737488351232) (o1 : a1 = none → n1 = 0 ∧ c1 = 0)
    (a2 : Int) (_w2 : (Lit.int .u64 a2).wf = true) (a3 : Int) (_w3 : (Lit.int .i64 a3).wf = true) :
    Calls Try.prog 3 #[.slice a0 n0 c0, .slice a1 n1 c1, .int .u64 a2, .int .i64 a3] w fun e w' => e = .returned (.bool true) ∧ Below w.heap.size w w' := by
  have h := core a0 a1 c0 c1 ((List.range n0).map z0) ((List.range n1).map z1) a2 a3 w (words_of_ints h0) (words_of_ints h1) (by simpa using o0) (by simpa using o1) (by simp; omega) (by simp; omega)
  simpa using h
end Go.Proofs.Ytpbednjnompefaa.cellsHas
