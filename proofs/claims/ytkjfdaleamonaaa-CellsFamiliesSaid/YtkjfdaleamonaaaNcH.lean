/- The contract of cells.Groups. -/
import Derived.Test.YtkjfdaleamonaaaNcG
namespace Go.Proofs.Ytkjfdaleamonaaa
open Go.RowKit Go.Lib Wd

theorem OwnG.base {w : World} {B C : Nat} (hb : C ≤ B) : ∀ {vs : List Value} {ls : List (List Int)}, OwnG w B vs ls → OwnG w C vs ls
  | [], [], _ => trivial
  | _ :: _, _ :: _, h => ⟨own_base h.1 hb, OwnG.base hb h.2⟩
theorem Gr.base {w : World} {B C : Nat} {v : Value} {vs : List Value} {G : List (List Int)} (h : Gr w B v vs G) (hb : C ≤ B) : Gr w C v vs G := ⟨own_base h.1 hb, h.2.1.base hb, h.2.2⟩
theorem below_set {B : Nat} {w w3 : World} (h : Below B w w3) {g : Nat} (hg : B ≤ g) (k : Nat) (u : Value) : Below B w (w3.setCell ⟨g, k, none⟩ u) := h.setCell (p := ⟨g, k, none⟩) hg u
theorem g_skip {s : Gs} {u : Nat} (h : parE u = 5) : gStep s u = s := by unfold gStep; rw [Int.toNat_natCast, if_pos h]
theorem g_more {G : List (List Int)} {l : List Int} {p : Int} {u : Nat} (h : parE u = 0) (hp : (parW u : Int) = p) : gStep ⟨G ++ [l], p, true⟩ u = ⟨G ++ [l ++ [(u : Int)]], p, true⟩ := by
  unfold gStep
  rw [Int.toNat_natCast, if_neg (by rw [h]; decide), if_pos ⟨h, rfl, hp⟩]
  simp
theorem g_new {G : List (List Int)} {p : Int} {b : Bool} {u : Nat} (h5 : parE u ≠ 5) (h : ¬ (parE u = 0 ∧ b = true ∧ (parW u : Int) = p)) : gStep ⟨G, p, b⟩ u = ⟨G ++ [[(u : Int)]], (parW u : Int), decide (parE u = 0)⟩ := by
  unfold gStep
  rw [Int.toNat_natCast, if_neg h5, if_neg h]
theorem g_rows (s : Gs) (u : Int) {k : Nat} (h : ∀ r ∈ s.out, r.length ≤ k) : ∀ r ∈ (gStep s u).out, r.length ≤ k + 1 := by
  intro r hr
  unfold gStep at hr
  split at hr
  · have := h r hr; omega
  · split at hr
    · rcases List.mem_append.1 hr with hr | hr
      · have := h r ((List.dropLast_sublist _).subset hr); omega
      · obtain rfl := List.mem_singleton.1 hr
        rw [List.length_append]
        cases hl : s.out.getLast? with
        | none => simp
        | some l =>
          have := h l (List.mem_of_getLast? hl)
          simp only [Option.getD_some, List.length_cons, List.length_nil]
          omega
    · rcases List.mem_append.1 hr with hr | hr
      · have := h r hr; omega
      · obtain rfl := List.mem_singleton.1 hr
        simp
/-- What is told: rows of words, a call's own. -/
def ToldG (w : World) (G : List (List Int)) (e : Ending) (w' : World) : Prop := ∃ ao c vs, e = .returned (.slice ao vs.length c) ∧ Gr w' w.heap.size (.slice ao vs.length c) vs G ∧ Below w.heap.size w w'
set_option maxRecDepth 100000 in
set_option maxHeartbeats 8000000 in
theorem groups_any (ao : Option Addr) (c : Nat) (l : List Int) (w : World) (B : Nat) (h : WordsAt w B ao l) (hn : l.length ≤ 1000000) (h64 : In64 l) :
    Calls Try.prog 9 #[.slice ao l.length c] w (ToldG w (grpF l)) := by
  obtain ⟨i0, hi, hz0, hz1, hz2⟩ := info_parts info_u
  obtain ⟨i1, hj, hy0, hy1, hy2⟩ := info_parts info_us
  have HSET := Lib.hid (uset_any ao c l w B h (by omega))
  have hsl := setF_length l
  have h64s : In64 (setF l) := fun v hv => h64 v ((setF_mem l v).1 hv)
  have HGF : Hid (grpF l = (gAll (setF l)).out) := rfl
  obtain ⟨L, hL⟩ : ∃ L, setF l = L := ⟨_, rfl⟩
  rw [hL] at HSET HGF hsl h64s
  obtain ⟨n, hnn⟩ : ∃ n, L.length = n := ⟨_, rfl⟩
  have HN := Lib.hid hnn
  have H64 : Hid (∀ k, k < n → 0 ≤ L.getD k 0 ∧ L.getD k 0 < 18446744073709551616) := fun k hk => h64s _ (getD_mem (by rw [hnn]; exact hk))
  have HTK : Hid (∀ k, k < n → gAll (L.take (k + 1)) = gStep (gAll (L.take k)) (L.getD k 0)) := fun k hk => by rw [take_w L (by rw [hnn]; exact hk), gAll_snoc]
  have HEND : Hid (∀ k, n ≤ k → L.take k = L) := fun k hk => List.take_of_length_le (by rw [hnn]; exact hk)
  have HHAS : Hid (∀ k G p, gAll (L.take k) = ⟨G, p, true⟩ → G ≠ []) := fun k G p hg => by
    have := gAll_has (L.take k)
    rw [hg] at this
    exact this rfl
  have HLEN : Hid (∀ k, k ≤ n → (gAll (L.take k)).out.length ≤ k) := by
    intro k
    induction k with
    | zero => intro _; exact Nat.le_refl _
    | succ k ih =>
      intro hk
      rw [HTK.out k (by omega)]
      have := ih (by omega)
      unfold gStep
      split
      · omega
      · split
        · simp only [List.length_append, List.length_dropLast, List.length_cons, List.length_nil]; omega
        · simp only [List.length_append, List.length_cons, List.length_nil]; omega
  have HROW : Hid (∀ k, k ≤ n → ∀ r ∈ (gAll (L.take k)).out, r.length ≤ k) := by
    intro k
    induction k with
    | zero => intro _ r hr; cases hr
    | succ k ih =>
      intro hk
      rw [HTK.out k (by omega)]
      exact g_rows _ _ (ih (by omega))
  have hn6 : n ≤ 1000000 := by omega
  rw [hnn] at HSET
  clear hL hsl h64s hnn h h64 hn
  go_enter Try.func9, Try.ntmps9
  go_wp2_with fail
  refine HSET.out.mono ?_
  rintro e w1 ⟨so, sc, rfl, -, hws, hb1⟩
  have HW := Lib.hid hws
  have B1 := Lib.hid hb1
  have hs1 := hb1.size
  clear hws hb1 HSET
  go_wp2
  go_loopw [3, 4, 5, 13] (fun v pv bv i wr => ∃ (k : Nat) (G : List (List Int)) (vs : List Value) (p : Int) (b : Bool) (vo : Option Addr) (q vc : Nat), v = .slice vo q vc ∧ k ≤ n ∧ i = .int .i64 k ∧ pv = .int .u64 p ∧ bv = .bool b ∧ q ≤ k ∧ Hid (gAll (L.take k) = ⟨G, p, b⟩) ∧ Hid (vs.length = q) ∧ Hid (Gr wr w1.heap.size (.slice vo q vc) vs G ∧ Below w1.heap.size w1 wr)) (fun _ _ _ i _ => n - (intOf i).toNat)
  case atStart => exact ⟨0, [], [], 0, false, none, 0, 0, rfl, by omega, rfl, rfl, rfl, by omega, rfl, rfl, Gr.nil _ _, Below.refl _ _⟩
  case round =>
    obtain ⟨k, G, vs, p, b, vo, q, vc, rfl, hk, rfl, rfl, rfl, hvl, HS, HQ, HI⟩ := hrel
    have hbr := HI.out.2
    have hsr := hbr.size
    by_cases hlt : k < n
    · obtain ⟨sg, soff, rfl, hsg, hsc⟩ := (HW.out.below hbr (Nat.le_refl _)) (by rw [HN.out]; omega)
      have c0 := hsc k (by rw [HN.out]; exact hlt)
      obtain ⟨v1, v2⟩ := H64.out k hlt
      have hst := HTK.out k hlt
      have hln := HLEN.out (k + 1) (by omega)
      generalize L.getD k 0 = x at *
      obtain ⟨u, rfl⟩ : ∃ u : Nat, x = u := ⟨x.toNat, by omega⟩
      have HIP := Lib.hid (ipar_any u (by omega))
      rw [HS.out] at hst
      rw [hst] at hln
      have hsgw : sg < wr.heap.size := by omega
      clear hsc hbr
      have hpe : parE u = 5 ∨ parE u = 3 ∨ parE u = 0 := by unfold parE; (repeat' split) <;> simp
      by_cases h5 : parE u = 5
      · rw [g_skip h5] at hst
        rw [h5] at HIP
        have HST := Lib.hid hst
        generalize (parW u : Nat) = P at *
        clear hst h5 hpe hln
        go_wp2_with fail
        refine (HIP.out _).mono ?_
        rintro e w2 ⟨rfl, hb2⟩
        have HG2 : Hid (Gr w2 w1.heap.size (.slice vo q vc) vs G ∧ Below w1.heap.size w1 w2) := ⟨HI.out.1.later hb2, HI.out.2.trans (hb2.mono (by omega))⟩
        clear hb2 HI c0
        go_wp2
        go_roundw
        case rel => exact ⟨k + 1, G, vs, p, b, vo, q, vc, rfl, by omega, by go_num, rfl, rfl, by omega, HST.out, HQ.out, HG2.out⟩
        case measure => simp [intOf]; omega
      · by_cases hm : parE u = 0 ∧ b = true ∧ (parW u : Int) = p
        · obtain ⟨h0, rfl, hp⟩ := hm
          obtain ⟨G', l', rfl⟩ : ∃ G' l', G = G' ++ [l'] := ⟨G.dropLast, G.getLast (HHAS.out _ _ _ HS.out), (List.dropLast_concat_getLast _).symm⟩
          have hOl := HI.out.1.2.1.length
          have hrow := HROW.out k hk
          rw [HS.out] at hrow
          have hl6 : l'.length ≤ k := hrow l' (by simp)
          clear hrow
          obtain ⟨vs', x, rfl⟩ : ∃ vs' x, vs = vs' ++ [x] := by
            have hne : vs ≠ [] := fun e => by rw [e] at hOl; simp at hOl
            exact ⟨vs.dropLast, vs.getLast hne, (List.dropLast_concat_getLast _).symm⟩
          rw [g_more h0 hp] at hst
          rw [h0, hp] at HIP
          have HST := Lib.hid hst
          clear hst h5 hpe h0 hp hln hOl
          have hq := HQ.out
          rw [List.length_append] at hq
          simp only [List.length_cons, List.length_nil] at hq
          obtain ⟨q', rfl⟩ : ∃ q', q = q' + 1 := ⟨q - 1, by omega⟩
          have HQ' : Hid (vs'.length = q') := by show _ = _; omega
          obtain ⟨vo', vc', hvv, hvc, hvo⟩ := own_form HI.out.1.1
          simp only [Value.slice.injEq] at hvv
          obtain ⟨rfl, -, rfl⟩ := hvv
          obtain ⟨g, rfl, hgB, hgs, hgc⟩ := hvo (by simp)
          obtain ⟨xo, xc, rfl, hxc, -⟩ := own_form HI.out.1.2.1.last.2
          obtain ⟨m, hm⟩ : ∃ m, l'.length = m := ⟨_, rfl⟩
          have HM := Lib.hid hm
          rw [hm] at hl6 hxc
          have hml : m ≤ 1000000 := by omega
          have O0 : Hid (∀ wx, Below wr.heap.size wr wx → wx.cell? ⟨g, q', none⟩ = some (.slice xo m xc)) := fun wx hx => by
            have := hgc q' (.slice xo l'.length xc) (by rw [← HQ'.out]; simp)
            rw [hm] at this
            exact (hx.cell (p := ⟨g, q', none⟩) hgs).trans this
          clear hgc hq hm hvc hxc
          go_wp2_with fail
          refine (HIP.out _).mono ?_
          rintro e w2 ⟨rfl, hb2⟩
          have HG2 := Lib.hid (HI.out.1.later hb2)
          have HB2 := Lib.hid (HI.out.2.trans (hb2.mono (by omega)))
          have c1 := O0.out _ hb2
          have hzz2 := hb2.size
          clear hb2 HI c0 O0
          have hown := HG2.out.2.1.last.2
          rw [HM.out] at hown
          have q7 : IntKind.i64.wrap (((q' + 1 : Nat) : Int) - 1) = q' := by rw [show ((q' + 1 : Nat) : Int) - 1 = q' by omega]; exact wrap_in (by omega) (by omega)
          have hgw2 : g < w2.heap.size := by omega
          go_upto_region 9 with (fail)
          iterate 37 (first | go_values | go_skip | go_guarded | go_step | go_upon | go_back)
          refine wpList_append_own_at _ rfl (.tmp 43) (.tmp 45) 23 rfl w1.heap.size 24 i0 (.int .u64 0) 1 8 Try.underlying23 hi hz0 hz1 hz2 rfl (by decide) _ _ _ rfl (hown.alloc _) ⟨w2.heap.size, 0, none⟩ 1 1 [.int .u64 u] rfl rfl (cells_new _ _ _ _ rfl) (by simp [Value.oneCell']) (by unfold maxLen; omega) (by omega) (by simp; omega) ?_
          intro x' w3 hown1 hgrow _ hat
          have hat2 : x'.ownBlock = (Value.slice xo l'.length xc).ownBlock ∨ x'.ownBlock = some (w2.alloc (.cells #[.int .u64 (u : Int)] 24)).heap.size := by rw [HM.out]; exact hat
          have hg2 : (w2.alloc (.cells #[.int .u64 (u : Int)] 24)).grownBy w3 (Value.slice xo l'.length xc).ownBlock := by rw [HM.out]; exact hgrow
          clear hat
          obtain ⟨xo', xc', rfl, -⟩ := own_form hown1
          obtain ⟨hm1, hm2⟩ := HG2.out.more (u := (u : Int)) (by rw [HM.out]; exact hown1) hg2 hat2
          rw [HQ'.out] at hm1 hm2
          have hal : Below w2.heap.size w2 (w2.alloc (.cells #[.int .u64 (u : Int)] 24)) := (Below.refl _ _).alloc (Nat.le_refl _) _
          have hb3 := below_append (HB2.out.alloc HB2.out.size (.cells #[.int .u64 (u : Int)] 24)) (hown.alloc (.cells #[.int .u64 (u : Int)] 24)) (by simp; omega) hgrow
          obtain ⟨cur, hh, -, -, -, -, -⟩ := own_block hm2
          have k1 := hm2.cellAt q' (by omega)
          rw [show (vs' ++ [Value.slice xo l'.length xc])[q']? = some (.slice xo l'.length xc) by rw [← HQ'.out]; simp] at k1
          have k2 : w3.frozen? ⟨g, q', none⟩ = false := by simp [World.frozen?, hh]
          have k3 : g < w3.heap.size := (Array.getElem?_eq_some_iff.1 hh).1
          have HF : Hid (Gr (w3.setCell ⟨g, q', none⟩ (.slice xo' (m + 1) xc')) w1.heap.size (.slice (some ⟨g, 0, none⟩) (q' + 1) vc) (vs' ++ [.slice xo' (m + 1) xc']) (G' ++ [l' ++ [(u : Int)]]) ∧ Below w1.heap.size w1 (w3.setCell ⟨g, q', none⟩ (.slice xo' (m + 1) xc'))) := ⟨hm1, below_set hb3 (by omega) _ _⟩
          have HL2 : Hid ((vs' ++ [Value.slice xo' (m + 1) xc']).length = q' + 1) := by show _ = _; simp [HQ'.out]
          clear hm1 hm2 hal hb3 hh hown1 hgrow hg2 hat2 hown c1
          have q8 : (q' : Int) < (q' : Int) + 1 := by omega
          go_wp2
          go_roundw
          case rel => exact ⟨k + 1, _, _, p, true, some ⟨g, 0, none⟩, q' + 1, vc, rfl, by omega, by go_num, rfl, rfl, by omega, HST.out, HL2.out, HF.out⟩
          case measure => simp [intOf]; omega
        · rw [g_new h5 hm] at hst hln
          have HST := Lib.hid hst
          simp only [List.length_append, List.length_cons, List.length_nil] at hln
          clear hst
          have hcase : (parE u = 3 ∧ decide (parE u = 0) = false) ∨ (parE u = 0 ∧ b = false) ∨ (parE u = 0 ∧ b = true ∧ (((parW u : Nat) : Int) == p) = false) := by
            rcases hpe with h | h | h
            · exact absurd h h5
            · exact .inl ⟨h, by rw [h]; decide⟩
            · right
              cases b with
              | false => exact .inl ⟨h, rfl⟩
              | true => exact .inr ⟨h, rfl, by rw [beq_eq_false_iff_ne]; exact fun e => hm ⟨h, rfl, e⟩⟩
          clear hm hpe h5
          generalize parW u = P at *
          generalize parE u = E at *
          rcases hcase with ⟨rfl, h3⟩ | ⟨rfl, rfl⟩ | ⟨rfl, rfl, h3⟩
          all_goals
            first | rw [show decide ((3 : Int) = 0) = false from rfl] at HST | rw [show decide ((0 : Int) = 0) = true from rfl] at HST
            go_wp2_with fail
            refine (HIP.out _).mono ?_
            rintro e w2 ⟨rfl, hb2⟩
            have HG2 := Lib.hid (HI.out.1.later hb2)
            have HB2 := Lib.hid (HI.out.2.trans (hb2.mono (by omega)))
            have hzz2 := hb2.size
            clear hb2 HI c0
            have hown := HG2.out.1
            rw [HQ.out] at hown
            go_wp2_with (at_builtin; refine wpList_append_own _ rfl (.tmp 48) (.tmp 51) 38 rfl w1.heap.size 23 i1 (.slice none 0 0) 1 24 Try.underlying38 hj hy0 hy1 hy2 rfl (by decide) _ _ _ rfl ((hown.alloc _).alloc _) ⟨w2.heap.size + 1, 0, none⟩ 1 1 [.slice (some ⟨w2.heap.size, 0, none⟩) 1 1] rfl rfl (cells_new _ _ _ _ (by simp)) (by simp [Value.oneCell']) (by unfold maxLen; omega) (by omega) (by simp; omega) ?_; intro v' w3 hown1 hgrow _)
            have hg2 : ((w2.alloc (.cells #[.int .u64 (u : Int)] 24)).alloc (.cells #[.slice (some ⟨w2.heap.size, 0, none⟩) 1 1] 23)).grownBy w3 (Value.slice vo q vc).ownBlock := hgrow
            obtain ⟨vo3, vc3, rfl, -⟩ := own_form hown1
            have hsn := HG2.out.snoc (by omega) (by rw [HQ.out]; exact hown1) hg2
            have hb3 := below_append ((HB2.out.alloc HB2.out.size (.cells #[.int .u64 (u : Int)] 24)).alloc (by have := HB2.out.size; simp; omega) (.cells #[.slice (some ⟨w2.heap.size, 0, none⟩) 1 1] 23)) ((hown.alloc (.cells #[.int .u64 (u : Int)] 24)).alloc (.cells #[.slice (some ⟨w2.heap.size, 0, none⟩) 1 1] 23)) (by have := HB2.out.size; simp; omega) hg2
            have HF := Lib.hid (And.intro hsn hb3)
            have HL2 : Hid ((vs ++ [Value.slice (some ⟨w2.heap.size, 0, none⟩) 1 1]).length = q + 1) := by show _ = _; simp [HQ.out]
            clear hsn hb3 hown1 hgrow hg2 hown
            go_roundw
            case rel => exact ⟨k + 1, _, _, _, _, vo3, q + 1, vc3, rfl, by omega, by go_num, rfl, rfl, by omega, HST.out, HL2.out, HF.out⟩
            case measure => simp [intOf]; omega
    · have hnk : n ≤ k := by omega
      have hs := HS.out
      rw [HEND.out k hnk] at hs
      have hG : G = grpF l := by rw [HGF.out, hs]
      subst hG
      have HF : Hid (ToldG w (grpF l) (.returned (.slice vo q vc)) wr) := ⟨vo, vc, vs, by rw [HQ.out], by rw [HQ.out]; exact HI.out.1.base hs1, B1.out.trans (HI.out.2.mono hs1)⟩
      clear HI
      go_wp2
      go_ret
      exact HF.out
end Go.Proofs.Ytkjfdaleamonaaa
