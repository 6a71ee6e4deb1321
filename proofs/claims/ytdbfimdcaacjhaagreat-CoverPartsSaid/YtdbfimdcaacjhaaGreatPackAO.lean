/- Joined: NrO, AwA: contracts and plain laws, each with its own heading below. -/
import Derived.Test.YtdbfimdcaacjhaaGreatPackAH
import Derived.Test.YtdbfimdcaacjhaaGreatPackAC
import Derived.Maps.AppendAt
import Derived.Laws.OwnMore
import Derived.Lib.AppendZeros
/- apiaryref1.Set once more: what comes out is a row of the call's own. -/
namespace Go.Proofs.YtdbfimdcaacjhaaGreat
open Go.RowKit Go.Lib Go.Sort

def JoinedO (w : World) (l : List Int) (e : Ending) (w' : World) : Prop :=
  ∃ ao c, e = .returned (.slice ao l.length c) ∧ w'.ownsRow w.heap.size 35 1 (.slice ao l.length c) l.length (uV l) ∧ Below w.heap.size w w'
set_option maxRecDepth 100000 in
set_option maxHeartbeats 4000000 in
theorem rset_own (ao : Option Addr) (c : Nat) (l : List Int) (w : World) (h : WordsAt w w.heap.size ao l) (hn : l.length ≤ 1000000000) :
    Calls Tryz.prog 29 #[.slice ao l.length c] w (JoinedO w (setF l)) := by
  obtain ⟨i0, hi, hz0, hz1, hz2⟩ := info_parts info_u
  have hsz1 : (Tryz.prog.info? 35).map (·.size) = some 1 := by kernel_rfl
  obtain ⟨n, hnn⟩ : ∃ n, l.length = n := ⟨_, rfl⟩
  have HN := Lib.hid hnn
  have HW := Lib.hid h
  rw [hnn] at hn ⊢
  clear hnn h
  go_enter Tryz.func29, Tryz.ntmps29
  go_wp2
  go_loopw [3, 4] (fun v i wr => ∃ (k m : Nat), k ≤ n ∧ m ≤ k ∧ i = .int .i64 k ∧ Hid ((setF (l.take k)).length = m) ∧ wr.ownsRow w.heap.size 35 1 v m (uV (setF (l.take k))) ∧ Below w.heap.size w wr) (fun _ i _ => n - (intOf i).toNat)
  case atStart => exact ⟨0, 0, Nat.zero_le _, Nat.le_refl _, rfl, by show _ = _; rw [List.take_zero, setF_nil]; rfl, by rw [List.take_zero, setF_nil]; exact World.ownsRow_nil _ _ _ _, Below.refl _ _⟩
  case round =>
    obtain ⟨k, m, hk, hm, rfl, HM0, hown, hnx⟩ := hrel
    have hsz := hnx.size
    obtain ⟨s, hs⟩ : ∃ s, setF (l.take k) = s := ⟨_, rfl⟩
    have HM : Hid (s.length = m) := by show _ = _; rw [← hs]; exact HM0.out
    rw [hs] at hown
    have HUP : Hid (Rising s) := by show Rising s; rw [← hs]; exact (setF_up _).rising
    have HS := Lib.hid hs
    clear hs HM0
    obtain ⟨vo, vc, rfl, _, _⟩ := own_form hown
    have HWD := Lib.hid (words_own HM.out.symm hown)
    have HOWN := Lib.hid hown
    have HNX := Lib.hid hnx
    by_cases hlt : k < n
    · obtain ⟨b, off, rfl, hb, hc⟩ := (HW.out.below hnx (Nat.le_refl _)) (by rw [HN.out]; omega)
      have c0 := hc k (by rw [HN.out]; exact hlt)
      obtain ⟨x, hx⟩ : ∃ x, l.getD k 0 = x := ⟨_, rfl⟩
      rw [hx] at c0
      have HX := Lib.hid hx
      have hbw : b < wr.heap.size := by omega
      have KEEP : Hid (∀ X : World, X.heap = wr.heap → X.cell? ⟨b, off + k, none⟩ = some (.int .u64 x) ∧ b < X.heap.size ∧ WordsAt X X.heap.size vo s ∧ X.ownsRow w.heap.size 35 1 (.slice vo m vc) m (uV s)) := fun X hX => by
        refine ⟨?_, by rw [hX]; exact hbw, ?_, own_heap hX HOWN.out⟩
        · rw [cell_heap hX]; exact c0
        · have := words_heap hX HWD.out
          rwa [← hX] at this
      clear hc hx hown hnx c0 hbw HWD hsz
      obtain ⟨wo, hwo⟩ : ∃ wo : World, wo = wr := ⟨_, rfl⟩
      subst hwo
      go_wp2
      go_loopw [5, 6] (fun i j wr => ∃ lo hi : Nat, lo ≤ hi ∧ hi ≤ m ∧ i = .int .i64 lo ∧ j = .int .i64 hi ∧ Hid ((∀ k, k < lo → s.getD k 0 < x) ∧ ∀ k, hi ≤ k → k < m → x ≤ s.getD k 0) ∧ Hid (wr.heap = wo.heap) ∧ Below w.heap.size w wr) (fun i j _ => (intOf j).toNat - (intOf i).toNat)
      case atStart => exact ⟨0, m, Nat.zero_le _, Nat.le_refl _, rfl, rfl, ⟨fun k hk => by omega, fun k h1 h2 => by omega⟩, rfl, HNX.out⟩
      case round =>
        obtain ⟨lo, hi', h1, h2, rfl, rfl, HA, HH, hbx⟩ := hrel
        obtain ⟨c0, hbw, hwd, hown⟩ := KEEP.out wr HH.out
        have HWD := Lib.hid hwd
        have HOWN := Lib.hid hown
        have HBX := Lib.hid hbx
        have hsz := hbx.size
        clear hwd hown hbx
        by_cases hlt2 : lo < hi'
        · obtain ⟨g1, off1, rfl, hg1, hc1⟩ := HWD.out (by rw [HM.out]; omega)
          obtain ⟨t, ht⟩ : ∃ t, (lo + hi') / 2 = t := ⟨_, rfl⟩
          have hm1 : lo ≤ t := by omega
          have hm2 : t < hi' := by omega
          have hmI : ((lo : Int) + (hi' : Int)) / 2 = (t : Int) := by omega
          have c1 := hc1 t (by rw [HM.out]; omega)
          have HL1 : Hid (s.getD t 0 < x → ∀ k, k < t + 1 → s.getD k 0 < x) := fun e k hk => by
            have := HUP.out k t (by omega) (by rw [HM.out]; omega)
            omega
          have HL2 : Hid (¬ s.getD t 0 < x → ∀ k, t ≤ k → k < m → x ≤ s.getD k 0) := fun e k h3 h4 => by
            have := HUP.out t k h3 (by rw [HM.out]; exact h4)
            omega
          generalize s.getD t 0 = y at c1 HL1 HL2
          clear hc1 ht
          by_cases hyx : y < x
          · have HLL := Lib.hid (HL1.out hyx)
            clear HL1 HL2
            go_wp2_with (first | (with_reducible refine wp_region_lex (by kernel_rfl) (by kernel_rfl) ?_) | (with_reducible refine OnlyG.intro (by kernel_rfl) ?_))
            go_roundw
            case rel => exact ⟨t + 1, hi', by omega, h2, by go_num, rfl, ⟨HLL.out, HA.out.2⟩, HH.out, HBX.out.drew⟩
            case measure => simp [intOf]; omega
          · have HLL := Lib.hid (HL2.out hyx)
            clear HL1 HL2
            go_wp2_with (first | (with_reducible refine wp_region_lex (by kernel_rfl) (by kernel_rfl) ?_) | (with_reducible refine OnlyG.intro (by kernel_rfl) ?_))
            go_roundw
            case rel => exact ⟨lo, t, by omega, by omega, rfl, by go_num, ⟨HA.out.1, HLL.out⟩, HH.out, HBX.out.drew⟩
            case measure => simp [intOf]; omega
        · obtain rfl : lo = hi' := by omega
          by_cases hin : lo < m ∧ s.getD lo 0 = x
          · obtain ⟨g1, off1, rfl, hg1, hc1⟩ := HWD.out (by rw [HM.out]; omega)
            have c1 := hc1 lo (by rw [HM.out]; exact hin.1)
            obtain ⟨y, hy⟩ : ∃ y, s.getD lo 0 = y := ⟨_, rfl⟩
            have q1 : (y == x) = true := by rw [← hy]; simpa using hin.2
            rw [hy] at c1
            have HOLD : Hid (setF (l.take (k + 1)) = s) := by
              show _ = _
              rw [setF_old (by rw [HN.out]; exact hlt) (by rw [HS.out, HX.out, ← hin.2]; exact getD_mem (by rw [HM.out]; exact hin.1)), HS.out]
            have q0 : decide (lo < m) = true := by simpa using hin.1
            have hlm := hin.1
            clear hc1 hin hy
            go_wp2_with (first | (with_reducible refine wp_region_lex (by kernel_rfl) (by kernel_rfl) ?_) | (with_reducible refine OnlyG.intro (by kernel_rfl) ?_))
            go_roundw
            case rel => exact ⟨k + 1, m, by omega, by omega, by go_num, by show _ = _; rw [HOLD.out]; exact HM.out, by rw [HOLD.out]; exact HOWN.out, HBX.out.drew⟩
            case measure => simp [intOf]; omega
          · have HPUT : Hid (setF (l.take (k + 1)) = s.take lo ++ x :: s.drop lo) := by
              show _ = _
              rw [setF_put (by rw [HN.out]; exact hlt) HS.out (lo := lo) (by rw [HX.out]; exact HA.out.1) (by
                rw [HX.out]
                intro j h3 h4
                rw [HM.out] at h4
                have e1 := HA.out.2 j h3 h4
                have e2 := HUP.out lo j h3 (by rw [HM.out]; exact h4)
                have e3 := HA.out.2 lo (Nat.le_refl _) (by omega)
                by_cases e4 : s.getD lo 0 = x
                · exact absurd ⟨by omega, e4⟩ hin
                · omega), HX.out]
            have key : decide (lo < m) = false ∨ (lo < m ∧ decide (lo < m) = true ∧ ∃ g1 off1 y, vo = some ⟨g1, off1, none⟩ ∧ g1 < wr.heap.size ∧ wr.cell? ⟨g1, off1 + lo, none⟩ = some (.int .u64 y) ∧ (y == x) = false) := by
              by_cases e : lo < m
              · refine .inr ⟨e, by simpa using e, ?_⟩
                obtain ⟨g1, off1, rfl, hg1, hc1⟩ := HWD.out (by rw [HM.out]; omega)
                exact ⟨g1, off1, _, rfl, hg1, hc1 lo (by rw [HM.out]; exact e), by simpa using fun h => hin ⟨e, h⟩⟩
              · exact .inl (by simpa using e)
            clear hin hlt2
            rcases key with q0 | ⟨hlm, q0, g1, off1, y, rfl, hg1, c1, q1⟩
            all_goals
              have hown := HOWN.out
              go_upto_region 13 with (first | (with_reducible refine wp_region_lex (by kernel_rfl) (by kernel_rfl) ?_) | (with_reducible refine OnlyG.intro (by kernel_rfl) ?_) | (at_builtin; refine wpList_append_own _ rfl (.tmp 50) (.tmp 51) 31 rfl w.heap.size 35 i0 (.int .u64 0) 1 8 Tryz.underlying31 hi hz0 hz1 hz2 rfl (by decide) _ _ _ rfl (hown.alloc _) ⟨wr.heap.size, 0, none⟩ 1 1 [.int .u64 0] rfl rfl (cells_new _ _ _ _ rfl) (by simp [Value.oneCell']) (by unfold maxLen; omega) (by omega) (by simp; omega) ?_; intro v' w3 hown1 hgrow _))
              have hbel : Below w.heap.size w w3 := below_append (HBX.out.drew.alloc hsz _) (hown.alloc _) (by simp; omega) hgrow
              rcases hown1.2 with ⟨_, h0⟩ | ⟨g, cap, ⟨cur⟩, rfl, hbg, hheap, hcap, hmax, hcsz, htake⟩
              · omega
              obtain ⟨e, he⟩ : ∃ e, s.drop lo = e := ⟨_, rfl⟩
              have hdl : (uV e).length = m - lo := by rw [uV_len, ← he, List.length_drop, HM.out]
              have hmin : (uV e).length = Nat.min (m + 1 - lo) (m - lo) := by rw [hdl]; show _ = min _ _; omega
              have hfit : lo + 1 + (uV e).length ≤ cur.length := by rw [hdl]; have : cur.length = cap := by simpa using hcsz
                                                                    omega
              have HPOS : Hid (0 < (uV e).length → (if cap = lo + 1 then some (⟨g, 0, none⟩ : Addr) else some ⟨g, lo + 1, none⟩) = some ⟨g, lo + 1, none⟩ ∧ ∃ ad, some (⟨g, lo, none⟩ : Addr) = some ad ∧ ∀ j v, (uV e)[j]? = some v → w3.drew.cell? (ad.add j) = some v) := fun h0 => by
                refine ⟨by rw [if_neg (by omega)], _, rfl, fun j v hj => ?_⟩
                have hj' : j < (uV e).length := (List.getElem?_eq_some_iff.1 hj).1
                have hadd : (⟨g, lo, none⟩ : Addr).add j = ⟨g, lo + j, none⟩ := by unfold Addr.add; split <;> simp_all
                rw [hadd, cell_heap (X := w3.drew) (w := w3) rfl, hown1.cellAt (lo + j) (by omega), List.getElem?_append_left (by rw [uV_len, HM.out]; omega), ← hj, ← he]
                simp [uV]
              have HTK : Hid (cur.take (m + 1) = uV s ++ [.int .u64 0]) := by show _ = _; rw [← htake, Nat.mul_one]
              have HCL : Hid (cur.length = cap) := by show _ = _; simpa using hcsz
              have HDE := Lib.hid he
              have hheap' : w3.drew.heap[g]? = some (.cells cur.toArray 35 (0, 0)) := hheap
              have hbel' := hbel.drew
              have hw1 : IntKind.i64.wrap ((lo : Int) + 1) = (lo : Int) + 1 := IntWalk.i64_in _ (by omega)
              have hb1 : (lo : Int) + 1 ≤ (m : Int) + 1 := by omega
              have hb2 : (lo : Int) ≤ (m : Int) + 1 := by omega
              have hb0 : (0 : Int) ≤ (lo : Int) + 1 := by omega
              have hne : ¬ cap = lo := by omega
              clear htake hcsz hown1 hgrow hown he hdl
              go_region_law (refine step_copy_splice rfl (.tmp 56) (.tmp 59) 31 31 rfl 35 Tryz.underlying31 hsz1 (if cap = lo + 1 then some (⟨g, 0, none⟩ : Addr) else some ⟨g, lo + 1, none⟩) (some ⟨g, lo, none⟩) (m - lo) (cap - (lo + 1)) (m + 1 - lo) (cap - lo) (by simp [Act.eval, Act.put]) (by simp [Act.eval, Act.put]) g (lo + 1) cur 35 hheap' (uV e) hmin HPOS.out hfit (uV_cell _) w.heap.size w hbel' hbg ?_; intro w4 HG4 hb4)
              have hput := HG4.out
              have c4 : w4.cell? ⟨b, off + k, none⟩ = some (.int .u64 x) := (hb4.cell (p := ⟨b, off + k, none⟩) hb).trans ((HBX.out.cell (p := ⟨b, off + k, none⟩) hb).symm.trans c0)
              have hbw4 : b < w4.heap.size := by have := hb4.size; omega
              have hg4 : g < w4.heap.size := (Array.getElem?_eq_some_iff.1 hput).1
              have hsl : lo < (splice cur (lo + 1) (uV e)).length := by rw [length_splice _ _ _ hfit, HCL.out]; omega
              have c5 : w4.cell? ⟨g, lo, none⟩ = some (splice cur (lo + 1) (uV e))[lo] := by
                rw [cell_of_row _ _ _ _ _ _ hput, List.getElem?_toArray, List.getElem?_eq_getElem hsl]
              have hf5 : w4.frozen? ⟨g, lo, none⟩ = false := by simp [World.frozen?, hput]
              have HG5 := Lib.hid (hput)
              generalize (splice cur (lo + 1) (uV e))[lo] = y5 at c5
              have HB5 : Hid (Below w.heap.size w (w4.setCell ⟨g, lo, none⟩ (.int .u64 x))) := hb4.setCell hbg _
              have HOWN5 : Hid ((w4.setCell ⟨g, lo, none⟩ (.int .u64 x)).ownsRow w.heap.size 35 1 (.slice (some ⟨g, 0, none⟩) (m + 1) cap) (m + 1) (uV (setF (l.take (k + 1))))) := by
                have hh : w4.heap[g]? = some (.cells (splice cur (lo + 1) (uV (s.drop lo))).toArray 35 (0, 0)) := by rw [HDE.out]; exact hput
                have := own_put (x := x) hbg HM.out h2 hcap hmax HCL.out HTK.out hh
                rw [← HPUT.out] at this
                exact this
              have HLEN : Hid ((setF (l.take (k + 1))).length = m + 1) := by
                show _ = _
                rw [HPUT.out, List.length_append, List.length_cons, List.length_take, List.length_drop, HM.out]
                omega
              clear hput hb4 hsl hheap hheap' hbel hbel' hfit hmin
              go_wp2_with (first | (with_reducible refine wp_region_lex (by kernel_rfl) (by kernel_rfl) ?_) | (with_reducible refine OnlyG.intro (by kernel_rfl) ?_))
              go_roundw
              case rel => exact ⟨k + 1, m + 1, by omega, by omega, by go_num, HLEN.out, HOWN5.out, HB5.out⟩
              case measure => simp [intOf]; omega
    · obtain rfl : k = n := by omega
      have HT : Hid (s = setF l) := by show _ = _; rw [← HS.out, ← HN.out, List.take_length]
      have hwd := words_own HM.out.symm hown
      have hJ : Hid (JoinedO w (setF l) (.returned (.slice vo m vc)) wr) := ⟨vo, vc, by rw [← HT.out, HM.out], by rw [← HT.out, HM.out]; exact hown, hnx⟩
      clear hwd hown hnx
      go_wp2
      go_ret
      exact hJ.out
end Go.Proofs.YtdbfimdcaacjhaaGreat
/- append of words that lie anywhere to a row of the call's own; two appended, one behind the other; Set, Same and Has of a slice by its length. -/
namespace Go.Proofs.YtdbfimdcaacjhaaGreat
open Go.RowKit Go.Lib Go.Sort

theorem words_news {w : World} {B : Nat} {ao : Option Addr} {l : List Int} (h : WordsAt w B ao l) : ∀ ad, ao = some ad → ∀ j u, (uV l)[j]? = some u → w.cell? (ad.add j) = some u := fun ad e j u hj => by
  have hjl : j < l.length := by have := (List.getElem?_eq_some_iff.1 hj).1; rwa [uV_len] at this
  obtain ⟨b, off, e2, _, hc⟩ := h (by omega)
  rw [e2] at e
  cases e
  rw [uV_get l j hjl] at hj
  cases hj
  have hadd : (⟨b, off, none⟩ : Addr).add j = ⟨b, off + j, none⟩ := by unfold Addr.add; split <;> simp_all
  rw [hadd]
  exact hc j hjl
theorem append_words {w : World} {base n m c : Nat} {v : Value} {xs l : List Int} {ao : Option Addr} (hown : w.ownsRow base 35 1 v n (uV xs)) (hw : WordsAt w w.heap.size ao l) (hl : l.length = m) (hz : ao = none → m = 0 ∧ c = 0) (hb : base ≤ w.heap.size) (hn : n + m ≤ 1000000) :
    ∃ v' w', (Builtin.append_ #[31, 31] 31 #[v, .slice ao m c]).run Tryz.prog w = .ok v' w' ∧ w'.ownsRow base 35 1 v' (n + m) (uV (xs ++ l)) ∧ w.grownBy w' v.ownBlock := by
  obtain ⟨i0, hi, hz0, hz1, hz2⟩ := info_parts info_u
  have hu : uV (xs ++ l) = uV xs ++ uV l := by simp [uV]
  cases ao with
  | none =>
    obtain ⟨rfl, rfl⟩ := hz rfl
    obtain rfl : l = [] := List.eq_nil_of_length_eq_zero hl
    refine ⟨v, w, run_append_owned_none w base 31 31 35 i0 1 Tryz.underlying31 hi v n (uV xs) hown, by simpa using hown, ⟨rfl, rfl, rfl, Nat.le_refl _, fun _ _ _ => rfl⟩⟩
  | some ad =>
    obtain ⟨v', w', hr, h2, h3, _⟩ := run_append_own w base 31 31 35 i0 (.int .u64 0) 1 8 Tryz.underlying31 hi hz0 hz1 hz2 rfl (by decide) v n (uV xs) hown ad m c (uV l) (by rw [uV_len, hl, Nat.mul_one]) (words_news hw ad rfl) (uV_cell l) (by unfold maxLen; omega) (by omega) hb
    exact ⟨v', w', hr, by rw [hu]; exact h2, h3⟩
/-- append under a guard that is wanted, its run known. -/
theorem wpList_append_want {P : Program} (w : World) {ops : Array Oper} {rest : List Oper} {o : Oper} {a : Act} {Q : Exit → Act → World → Prop} (hgd : Region.wanted o (yielded ops a.tmps) = true) (s x : Operand) (t tn : TypeId)
    (ho : o.op = .call { callee := .builtin .append, args := #[s, x], argTypes := #[t, tn] }) (vs vx : Value) (hs : a.eval s = vs) (hx : a.eval x = vx)
    (v' : Value) (w' : World) (hr : (Builtin.append_ #[t, tn] o.type #[vs, vx]).run P w = .ok v' w') (h : wpList P ops Q rest (a.put o.dst v') w') : wpList P ops Q (o :: rest) a w := by
  unfold wpList
  rw [if_pos hgd]
  exact .inl (wp_append_run w s x t tn ho vs vx hs hx v' w' hr h)
/-- Two lists in a row of the call's own, made anew. -/
theorem two_append {w : World} {A B : List Int} {ao bo : Option Addr} {n m ca cb : Nat} (hn : n = A.length) (hm : m = B.length) (hA : WordsAt w w.heap.size ao A) (hB : WordsAt w w.heap.size bo B) (zA : ao = none → n = 0 ∧ ca = 0) (zB : bo = none → m = 0 ∧ cb = 0) (hb : n + m ≤ 1000000) :
    ∃ x1 wA xo xc wB, (Builtin.append_ #[31, 31] 31 #[.slice (some ⟨w.heap.size, 0, none⟩) 0 0, .slice ao n ca]).run Tryz.prog (w.alloc (.cells #[] 35)) = .ok x1 wA ∧
      (Builtin.append_ #[31, 31] 31 #[x1, .slice bo m cb]).run Tryz.prog wA = .ok (.slice xo (n + m) xc) wB ∧ wB.ownsRow w.heap.size 35 1 (.slice xo (n + m) xc) (n + m) (uV (A ++ B)) ∧ Below w.heap.size w wB := by
  have hb0 : Below w.heap.size w (w.alloc (.cells #[] 35)) := (Below.refl _ w).alloc (Nat.le_refl _) _
  obtain ⟨x1, wA, hrA, hA1, hgA⟩ := append_words (w := w.alloc (.cells #[] 35)) (base := w.heap.size) (n := 0) (v := .slice (some ⟨w.heap.size, 0, none⟩) 0 0) (xs := []) (l := A) (ao := ao) (m := n) (c := ca)
    (World.ownsRow_made w #[] 0 (Nat.le_refl _) (Nat.zero_le _) (by simp)) ((hA.below hb0 (Nat.le_refl _)).wider hb0.size) hn.symm zA hb0.size (by omega)
  rw [Nat.zero_add, List.nil_append] at hA1
  have hba : Below w.heap.size w wA := hb0.grown hgA hb0.size (by intro k hk; simp [Value.ownBlock] at hk; omega)
  obtain ⟨x2, wB, hrB, hB1, hgB⟩ := append_words (w := wA) (base := w.heap.size) (n := n) (v := x1) (xs := A) (l := B) (ao := bo) (m := m) (c := cb) hA1 ((hB.below hba (Nat.le_refl _)).wider hba.size) hm.symm zB hba.size hb
  have hbb : Below w.heap.size w wB := below_append hba hA1 hba.size hgB
  obtain ⟨xo, xc, rfl, -⟩ := own_form hB1
  exact ⟨x1, wA, xo, xc, wB, hrA, hrB, hB1, hbb⟩
theorem rset_n {w : World} {ao : Option Addr} {n c : Nat} {l : List Int} (hn : n = l.length) (hl : n ≤ 1000000) (h : WordsAt w w.heap.size ao l) : Calls Tryz.prog 29 #[.slice ao n c] w fun e w' => ∃ ao' c', e = .returned (.slice ao' (setF l).length c') ∧ WordsAt w' w'.heap.size ao' (setF l) ∧ Below w.heap.size w w' := by
  subst hn
  refine (rset_own ao c l w h (by omega)).mono ?_
  rintro e w' ⟨ao', c', rfl, h2, hb⟩
  exact ⟨ao', c', rfl, words_own rfl h2, hb⟩
theorem rset_own_n {w : World} {ao : Option Addr} {n c : Nat} {l : List Int} (hn : n = l.length) (hl : n ≤ 1000000) (h : WordsAt w w.heap.size ao l) : Calls Tryz.prog 29 #[.slice ao n c] w fun e w' => ∃ ao' c', e = .returned (.slice ao' (setF l).length c') ∧ w'.ownsRow w.heap.size 35 1 (.slice ao' (setF l).length c') (setF l).length (uV (setF l)) ∧ Below w.heap.size w w' := by
  subst hn
  exact rset_own ao c l w h (by omega)
theorem same_n {w : World} {ao bo : Option Addr} {n m c d : Nat} {a b : List Int} (hn : n = a.length) (hm : m = b.length) (hl : n ≤ 1000000) (ha : WordsAt w w.heap.size ao a) (hb : WordsAt w w.heap.size bo b) :
    Calls Tryz.prog 27 #[.slice ao n c, .slice bo m d] w fun e w' => e = .returned (.bool (decide (a = b))) ∧ Below w.heap.size w w' := by
  subst hn; subst hm
  exact same_any ao bo c d a b w _ _ ha hb (by omega)
theorem rhas_n {w : World} {ao : Option Addr} {n c : Nat} {l : List Int} (x : Int) (hn : n = l.length) (hl : n ≤ 1000000) (h : WordsAt w w.heap.size ao l) (hr : Rising l) :
    Calls Tryz.prog 15 #[.slice ao n c, .int .u64 x] w fun e w' => e = .returned (.bool (hasF l x)) ∧ w = w' := by
  subst hn
  exact rhas_any ao c l x w _ h (by omega) hr
/-- A list in memory, as a contract tells it. -/
def LAt (w : World) (ao : Option Addr) (n c : Nat) (L : List Int) : Prop := n = L.length ∧ WordsAt w w.heap.size ao L ∧ (ao = none → n = 0 ∧ c = 0)
theorem LAt.later {w w' : World} {ao : Option Addr} {n c : Nat} {L : List Int} (h : LAt w ao n c L) (hb : Below w.heap.size w w') : LAt w' ao n c L := ⟨h.1, (h.2.1.below hb (Nat.le_refl _)).wider hb.size, h.2.2⟩
theorem LAt.of_own {w : World} {base n c : Nat} {ao : Option Addr} {L : List Int} (hn : n = L.length) (h : w.ownsRow base 35 1 (.slice ao n c) n (uV L)) : LAt w ao n c L :=
  ⟨hn, words_own hn h, fun e => by
    rcases h.2 with ⟨hv, h0⟩ | ⟨g, cap, cur, hv, _⟩
    · simp only [Value.slice.injEq] at hv; exact ⟨hv.2.1, hv.2.2⟩
    · simp only [Value.slice.injEq] at hv; rw [e] at hv; cases hv.1⟩
end Go.Proofs.YtdbfimdcaacjhaaGreat
