/- Contracts of package hull: slices.Compact, Reverse at points of the call's own. -/
import Derived.Test.YtcoffankmmjehaaHullB
import Derived.Lib.SlicesCompact
import Derived.Lib.SliceRun
import Derived.Deep.LoopGhost
import Derived.Deep.Draws
namespace Go.Proofs.Ytcoffankmmjehaa
open Go.RowKit Go.Lib Hull

theorem eq_hp' (d : Nat) (a b c e : Int) (w : World) : (Op.equalIn (d + 2) 41 (.agg #[.int .i64 a, .int .i64 b]) (.agg #[.int .i64 c, .int .i64 e])).run Try.prog w = .ok (a == c && b == e) w := by
  have u := run_underlying Try.underlying41
  have z := Try.sizeOf2
  have E : ∀ (a b : Int) (w : World), (Op.equalIn (d + 1) 2 (.int .i64 a) (.int .i64 b)).run Try.prog w = .ok (a == b) w := fun a b w => run_equalIn_int w d 2 .i64 .i64 a b Try.underlying2
  rw [show d + 2 = (d + 1) + 1 from rfl, Op.equalIn]
  generalize Op.equalIn (d + 1) = F at E ⊢
  simp only [Sem.run_bind, u, Result.andThen_ok, z]
  by_cases h1 : a = c <;> by_cases h2 : b = e <;>
    simp [forIn, Sem.run_bind, List.range', part, z, E, go_sem, h1, h2]
theorem eq_hp (a b c e : Int) (w : World) : (Op.equalIn 10000 41 (.agg #[.int .i64 a, .int .i64 b]) (.agg #[.int .i64 c, .int .i64 e])).run Try.prog w = .ok (a == c && b == e) w := eq_hp' 9998 a b c e w
theorem Turn.drewN {S : Nat → Prop} {w w' : World} (h : Turn S w w') (n : Nat) : Turn S w (w'.drewN n) := ⟨h.1, h.2.1, h.2.2.1, h.2.2.2.1, h.2.2.2.2⟩
theorem own_drewN {w : World} {base n size : Nat} {e : TypeId} {v : Value} {xs : List Value} (h : w.ownsRow base e size v n xs) (q : Nat) : (w.drewN q).ownsRow base e size v n xs := h
theorem pg_arr (d : Array Pt) (j : Nat) : pg d.toList j = d[j]! := by
  unfold pg
  rw [List.getD_eq_getElem?_getD, Array.getElem?_toList]
  by_cases h : j < d.size
  · rw [getElem!_pos d j h, Array.getElem?_eq_getElem h]; rfl
  · rw [getElem!_neg d j h, Array.getElem?_eq_none (by omega)]; rfl
theorem pV_set : ∀ (L : List Pt) (i : Nat) (p : Pt), pV (L.set i p) = ((pV L).set (i * 2) (.int .i64 p.1)).set (i * 2 + 1) (.int .i64 p.2)
  | [], i, p => by simp [pV]
  | q :: l, 0, p => rfl
  | q :: l, i + 1, p => by
    have e1 : (i + 1) * 2 = i * 2 + 1 + 1 := by omega
    have e2 : pV ((q :: l).set (i + 1) p) = .int .i64 q.1 :: .int .i64 q.2 :: pV (l.set i p) := rfl
    have e3 : pV (q :: l) = .int .i64 q.1 :: .int .i64 q.2 :: pV l := rfl
    rw [e2, e3, e1, List.set_cons_succ, List.set_cons_succ, List.set_cons_succ, List.set_cons_succ, pV_set l i p]
/-- The cells of a row of the call's own. -/
theorem own_cells {w : World} {base n cap g : Nat} {t : TypeId} {l : List Pt} (h : w.ownsRow base t 2 (.slice (some ⟨g, 0, none⟩) n cap) n (pV l)) :
    g < w.heap.size ∧ (∀ j, w.frozen? ⟨g, j, none⟩ = false) ∧ ∀ i, i < l.length → w.cell? ⟨g, i * 2, none⟩ = some (.int .i64 (pg l i).1) ∧ w.cell? ⟨g, i * 2 + 1, none⟩ = some (.int .i64 (pg l i).2) := by
  obtain ⟨cur, hh, _⟩ := own_block h
  refine ⟨(Array.getElem?_eq_some_iff.1 hh).1, fun j => by simp [World.frozen?, hh], fun i hi => ?_⟩
  have := pV_get l i hi
  have hl : (pV l).length = n * 2 := h.1
  rw [pV_length] at hl
  exact ⟨(h.cellAt (i * 2) (by omega)).trans this.1, (h.cellAt (i * 2 + 1) (by omega)).trans this.2⟩
theorem own_len {w : World} {base n : Nat} {t : TypeId} {v : Value} {l : List Pt} (h : w.ownsRow base t 2 v n (pV l)) : l.length = n := by
  have := h.1; rw [pV_length] at this; omega
theorem own_setp {w : World} {base n cap g : Nat} {t : TypeId} {l : List Pt} (h : w.ownsRow base t 2 (.slice (some ⟨g, 0, none⟩) n cap) n (pV l)) (i : Nat) (p : Pt) :
    ((w.setCell ⟨g, i * 2, none⟩ (.int .i64 p.1)).setCell ⟨g, i * 2 + 1, none⟩ (.int .i64 p.2)).ownsRow base t 2 (.slice (some ⟨g, 0, none⟩) n cap) n (pV (l.set i p)) := by
  rw [pV_set]; exact own_set (own_set h _ _) _ _
theorem pV_take (l : List Pt) (k : Nat) : (pV l).take (k * 2) = pV (l.take k) := by
  by_cases hk : k ≤ l.length
  · conv => lhs; rw [← List.take_append_drop k l, pV_append]
    rw [List.take_append_of_le_length (by rw [pV_length, List.length_take]; omega), List.take_of_length_le (by rw [pV_length, List.length_take]; omega)]
  · rw [List.take_of_length_le (by rw [pV_length]; omega), List.take_of_length_le (by omega)]
/-- Cells behind the first ones are written: the first ones stay. -/
theorem own_setCells {base n cap g : Nat} {t : TypeId} : ∀ (vs : List Value) (o : Nat) (w : World) (xs : List Value), w.ownsRow base t 2 (.slice (some ⟨g, 0, none⟩) n cap) n xs →
    (∃ ys, (w.setCells g o vs).ownsRow base t 2 (.slice (some ⟨g, 0, none⟩) n cap) n ys ∧ ys.take o = xs.take o) ∧ Turn (fun k => k = g) w (w.setCells g o vs)
  | [], o, w, xs, h => ⟨⟨xs, h, rfl⟩, Turn.refl _ _⟩
  | v :: r, o, w, xs, h => by
    obtain ⟨⟨ys, h1, h2⟩, h3⟩ := own_setCells r (o + 1) (w.setCell ⟨g, o, none⟩ v) (xs.set o v) (own_set h o v)
    refine ⟨⟨ys, h1, ?_⟩, ((Turn.refl (fun k => k = g) w).setCell (a := ⟨g, o, none⟩) rfl v).trans h3 fun k _ h => h⟩
    have := congrArg (List.take o) h2
    rw [List.take_take, List.take_take, Nat.min_eq_left (by omega)] at this
    rw [this, List.take_set_of_le (Nat.le_refl _)]
theorem run_clear_pts (w : World) (ty : TypeId) (g o m c : Nat) (hm : 0 < m) (hc : ∀ j, j < m * 2 → (w.cell? ⟨g, o + j, none⟩).isSome = true) (hf : ∀ j, w.frozen? ⟨g, j, none⟩ = false) :
    ∃ vs : List Value, (Builtin.clear_ #[39] ty #[.slice (some ⟨g, o, none⟩) m c]).run Try.prog w = .ok (.tuple #[]) (w.setCells g o vs) := by
  refine ⟨(Builtin.zeroCells (Value.agg #[.int .i64 0, .int .i64 0]).cells m).toList, ?_⟩
  have hl : (Builtin.zeroCells (Value.agg #[.int .i64 0, .int .i64 0]).cells m).toList.length = m * 2 := by simp [Builtin.zeroCells, Value.cells]
  have h1 : ∀ v ∈ (Builtin.zeroCells (Value.agg #[.int .i64 0, .int .i64 0]).cells m).toList, v.oneCell' = true := fun v hv => by
    simp only [Builtin.zeroCells, Value.cells, Array.toList_map, List.mem_map] at hv
    obtain ⟨i, _, rfl⟩ := hv
    rcases (show i % 2 = 0 ∨ i % 2 = 1 by omega) with e | e <;> simp [e] <;> rfl
  have hst := run_storeCells_cells (P := Try.prog) g o _ 0 w (by rw [hl]; simpa using hc) (fun j _ => hf _) h1
  simp only [Nat.add_zero] at hst
  have hv : ∀ w, (zeroValue 41).run Try.prog w = .ok (.agg #[.int .i64 0, .int .i64 0]) w := fun _ => by kernel_rfl
  obtain ⟨m, rfl⟩ : ∃ k, m = k + 1 := ⟨m - 1, by omega⟩
  simp [Builtin.clear_, run_underlying Try.underlying39, hv, hst]
def Compacted (w : World) (base g n cap : Nat) (l : List Pt) (e : Ending) (w' : World) : Prop :=
  ∃ R, R = compactUpTo l.toArray n ∧ e = .returned (.slice (some ⟨g, 0, none⟩) R.length cap) ∧ w'.ownsRow base 41 2 (.slice (some ⟨g, 0, none⟩) R.length cap) R.length (pV R) ∧ Turn (fun k => k = g) w w'
theorem keeps_pg {l : List Pt} {m : Nat} (h : pg l m ≠ pg l (m - 1)) : keeps l.toArray m = true := keeps_pos (by rw [← pg_arr, ← pg_arr]; exact h)
theorem keeps_ng {l : List Pt} {m : Nat} (hm : 0 < m) (h : pg l m = pg l (m - 1)) : keeps l.toArray m = false := keeps_neg hm (by rw [← pg_arr, ← pg_arr]; exact h)
theorem comp_end {w w' : World} {base g n cap k : Nat} {l : List Pt} {dk : Array Pt} (hn : n = l.length) (hI : CompInv l.toArray n k dk) (ys : List Value) (ho : w'.ownsRow base 41 2 (.slice (some ⟨g, 0, none⟩) n cap) n ys) (hy : ys.take (k * 2) = (pV dk.toList).take (k * 2)) (ht : Turn (fun k => k = g) w w') :
    Compacted w base g n cap l (.returned (.slice (some ⟨g, 0, none⟩) k cap)) w' := by
  have hsz : dk.size = n := by rw [hI.size, hn]; simp
  have hlt := hI.lt
  have e : dk.toList.take k = compactUpTo l.toArray n := by
    apply List.ext_getElem?
    intro j
    by_cases hj : j < k
    · rw [List.getElem?_take_of_lt hj, hI.low j hj, Array.getElem?_toList, getElem!_pos dk j (by omega), Array.getElem?_eq_getElem (by omega)]
    · rw [List.getElem?_take_eq_none (by omega), List.getElem?_eq_none (by rw [hI.len]; omega)]
  refine ⟨compactUpTo l.toArray n, rfl, by rw [hI.len], ?_, ht⟩
  rw [hI.len]
  have := own_take ho (m := k) (by omega)
  rw [hy, pV_take, e] at this
  exact this
set_option maxHeartbeats 4000000 in
set_option maxRecDepth 1000000 in
theorem compact_own (g n cap base : Nat) (l : List Pt) (w : World) (ho : w.ownsRow base 41 2 (.slice (some ⟨g, 0, none⟩) n cap) n (pV l)) (hbig : n ≤ 1000000000) :
    Calls Try.prog 24 #[.slice (some ⟨g, 0, none⟩) n cap] w (Compacted w base g n cap l) := by
  have hln : n = l.length := (own_len ho).symm
  have hnc : n ≤ cap := by obtain ⟨_, _, _, h, _⟩ := own_block ho; exact h
  have HO := Lib.hid ho
  have HLN := Lib.hid hln
  have EQ := eq_hp
  have HS : Hid (∀ W, w.ownsRow base 41 2 (.slice (some ⟨g, 0, none⟩) n cap) n (pV l) → Turn (fun k => k = g) w W → W.ownsRow base 41 2 (.slice (some ⟨g, 0, none⟩) n cap) n (pV l) → (∀ j, j < n → keeps l.toArray j = true) → Compacted w base g n cap l (.returned (.slice (some ⟨g, 0, none⟩) n cap)) W) := fun W _ ht h2 hall => by
    have e : compactUpTo l.toArray n = l := by
      rw [compactUpTo_all _ _ hall]
      have := range_map_get l.toArray
      rw [show n = l.toArray.size by simp [hln]]
      simpa using this
    refine ⟨l, e.symm, by rw [← hln], ?_, ht⟩
    rw [← hln]; exact h2
  clear ho hln
  by_cases h2 : n < 2
  · have HF : Hid (Compacted w base g n cap l (.returned (.slice (some ⟨g, 0, none⟩) n cap)) w) := HS.out w HO.out (Turn.refl _ _) HO.out fun j hj => keeps_lt_one _ j (by omega)
    clear HS
    go_enter Try.func24, Try.ntmps24
    go_wp2
    go_ret
    exact HF.out
  · go_enter Try.func24, Try.ntmps24
    go_wp2
    go_loopg [3] n (fun q s3 wr => ∃ k : Nat, 1 ≤ k ∧ k ≤ n ∧ n - k ≤ q ∧ s3 = .int .i64 k ∧ Hid (wr.ownsRow base 41 2 (.slice (some ⟨g, 0, none⟩) n cap) n (pV l) ∧ Turn (fun k => k = g) w wr ∧ ∀ j, j < k → keeps l.toArray j = true))
    case atStart => exact ⟨1, Nat.le_refl _, by omega, by omega, rfl, HO.out, Turn.refl _ _, keeps_lt_one _⟩
    case round =>
      obtain ⟨k, hk1, hk, hg, rfl, HR⟩ := hrel
      by_cases hlt : k < n
      · obtain ⟨hgl, hfz, hc⟩ := own_cells HR.out.1
        obtain ⟨c0, c1⟩ := hc k (by rw [← HLN.out]; exact hlt)
        obtain ⟨p0, p1⟩ := hc (k - 1) (by rw [← HLN.out]; omega)
        obtain ⟨x, hx⟩ : ∃ x, pg l k = x := ⟨_, rfl⟩
        obtain ⟨y, hy⟩ : ∃ y, pg l (k - 1) = y := ⟨_, rfl⟩
        rw [hx] at c0 c1
        rw [hy] at p0 p1
        have HX : Hid (pg l k = x ∧ pg l (k - 1) = y) := ⟨hx, hy⟩
        clear hc hx hy hfz
        obtain ⟨x1, x2⟩ := x
        obtain ⟨y1, y2⟩ := y
        by_cases hdup : x1 = y1 ∧ x2 = y2
        · obtain ⟨rfl, rfl⟩ := hdup
          have q1 : (x1 == x1 && x2 == x2) = true := by simp
          go_wp2_with fail
          go_quiet (fail)
          have HR2 : Hid ((wr.drewN nq).ownsRow base 41 2 (.slice (some ⟨g, 0, none⟩) n cap) n (pV l) ∧ Turn (fun k => k = g) w (wr.drewN nq)) := ⟨own_drewN HR.out.1 _, HR.out.2.1.drewN _⟩
          have HK := Lib.hid HR.out.2.2
          clear c0 c1 p0 p1 HR
          generalize wr.drewN nq = w1 at *
          go_wp2
          go_loopg [3, 5] n (fun q s3 s5 wr => ∃ (kk k2 : Nat) (dk : Array Pt), s3 = .int .i64 kk ∧ s5 = .int .i64 k2 ∧ 1 ≤ k2 ∧ k + k2 ≤ n ∧ n - (k + k2) ≤ q ∧ Hid (wr.ownsRow base 41 2 (.slice (some ⟨g, 0, none⟩) n cap) n (pV dk.toList) ∧ Turn (fun k => k = g) w wr ∧ CompInv l.toArray (k + k2) kk dk))
          case atStart => exact ⟨k, 1, l.toArray, rfl, rfl, Nat.le_refl _, by omega, by omega, by simpa using HR2.out.1, HR2.out.2, CompInv.start HK.out (keeps_ng (by omega) (HX.out.1.trans HX.out.2.symm))⟩
          case round =>
            obtain ⟨kk, k2, dk, rfl, rfl, h1, hle, hg2, HR3⟩ := hrel
            have hkk := HR3.out.2.2.lt
            have hds : dk.toList.length = n := own_len HR3.out.1
            by_cases hlt2 : k + k2 < n
            · obtain ⟨hgl2, hfz2, hc2⟩ := own_cells HR3.out.1
              obtain ⟨m0, m1⟩ := hc2 (k + k2) (by omega)
              obtain ⟨n0, n1⟩ := hc2 (k + k2 - 1) (by omega)
              obtain ⟨o0, o1⟩ := hc2 kk (by omega)
              have f0 := hfz2 (kk * 2)
              have f1 := hfz2 (kk * 2 + 1)
              have em : pg dk.toList (k + k2) = pg l (k + k2) := by rw [pg_arr, HR3.out.2.2.high _ (by omega), ← pg_arr]
              have en : pg dk.toList (k + k2 - 1) = pg l (k + k2 - 1) := by rw [pg_arr, HR3.out.2.2.high _ (by omega), ← pg_arr]
              rw [em, show (k + k2) * 2 = k * 2 + k2 * 2 by omega] at m0 m1
              rw [en, show (k + k2 - 1) * 2 = k * 2 + (k2 - 1) * 2 by omega] at n0 n1
              obtain ⟨u, hu⟩ : ∃ x, pg l (k + k2) = x := ⟨_, rfl⟩
              obtain ⟨v, hv⟩ : ∃ y, pg l (k + k2 - 1) = y := ⟨_, rfl⟩
              generalize pg dk.toList kk = z at o0 o1
              rw [hu] at m0 m1
              rw [hv] at n0 n1
              have HU : Hid (pg l (k + k2) = u ∧ pg l (k + k2 - 1) = v) := ⟨hu, hv⟩
              have HDS := Lib.hid hds
              clear hc2 hfz2 em en hu hv hds
              obtain ⟨u1, u2⟩ := u
              obtain ⟨v1, v2⟩ := v
              obtain ⟨z1, z2⟩ := z
              by_cases huv : u1 = v1 ∧ u2 = v2
              · obtain ⟨rfl, rfl⟩ := huv
                have HI : Hid (CompInv l.toArray (k + (k2 + 1)) kk dk) := HR3.out.2.2.skip (keeps_ng (by omega) (HU.out.1.trans HU.out.2.symm))
                have HN : Hid (∀ nq, (wr.drewN nq).ownsRow base 41 2 (.slice (some ⟨g, 0, none⟩) n cap) n (pV dk.toList) ∧ Turn (fun k => k = g) w (wr.drewN nq)) := fun nq => ⟨own_drewN HR3.out.1 _, HR3.out.2.1.drewN _⟩
                have q1 : (u1 == u1 && u2 == u2) = true := by simp
                clear HR3 HU o0 o1 f0 f1
                go_wp2_with fail
                go_quiet (fail)
                have HN2 := Lib.hid (HN.out nq)
                go_wp2
                go_roundg (n - (k + (k2 + 1)))
                case measure => omega
                case rel => exact ⟨kk, k2 + 1, dk, rfl, by go_num, by omega, by omega, Nat.le_refl _, HN2.out.1, HN2.out.2, HI.out⟩
              · have hne : (u1 == v1 && u2 == v2) = false := by
                  rw [Bool.eq_false_iff]; intro h; simp at h; exact huv h
                have HI : Hid (CompInv l.toArray (k + (k2 + 1)) (kk + 1) (dk.setIfInBounds kk (u1, u2))) := by
                  have := HR3.out.2.2.keep (show k + k2 < l.toArray.size by simpa [← HLN.out] using hlt2) (keeps_pg (by rw [HU.out.1, HU.out.2]; exact fun e => huv (by cases e; exact ⟨rfl, rfl⟩)))
                  rwa [← pg_arr, show l.toArray.toList = l by simp, HU.out.1] at this
                have HN : Hid (∀ nq, (((wr.drewN nq).setCell ⟨g, kk * 2, none⟩ (.int .i64 u1)).setCell ⟨g, kk * 2 + 1, none⟩ (.int .i64 u2)).ownsRow base 41 2 (.slice (some ⟨g, 0, none⟩) n cap) n (pV (dk.setIfInBounds kk (u1, u2)).toList) ∧ Turn (fun k => k = g) w (((wr.drewN nq).setCell ⟨g, kk * 2, none⟩ (.int .i64 u1)).setCell ⟨g, kk * 2 + 1, none⟩ (.int .i64 u2))) := fun nq => ⟨by rw [Array.toList_setIfInBounds]; exact own_setp (own_drewN HR3.out.1 nq) kk (u1, u2), ((HR3.out.2.1.drewN nq).setCell (a := ⟨g, kk * 2, none⟩) rfl _).setCell (a := ⟨g, kk * 2 + 1, none⟩) rfl _⟩
                clear HR3 HU huv
                go_wp2_with fail
                go_quiet (fail)
                have HN2 := Lib.hid (HN.out nq)
                go_wp2
                go_roundg (n - (k + (k2 + 1)))
                case measure => omega
                case rel => exact ⟨kk + 1, k2 + 1, dk.setIfInBounds kk (u1, u2), by go_num, by go_num, by omega, by omega, Nat.le_refl _, HN2.out.1, HN2.out.2, HI.out⟩
            · have hend : k + k2 = n := by omega
              have hcl : ∃ vs, ∀ ty, (Builtin.clear_ #[39] ty #[.slice (some ⟨g, kk * 2, none⟩) (n - kk) (cap - kk)]).run Try.prog wr = .ok (.tuple #[]) (wr.setCells g (kk * 2) vs) := by
                obtain ⟨_, hfz2, hc2⟩ := own_cells HR3.out.1
                obtain ⟨vs, hvs⟩ := run_clear_pts wr 0 g (kk * 2) (n - kk) (cap - kk) (by omega) (fun j hj => by
                  have h9 := hc2 (kk + j / 2) (by omega)
                  rcases (show j % 2 = 0 ∨ j % 2 = 1 by omega) with e | e
                  · rw [show kk * 2 + j = (kk + j / 2) * 2 by omega, h9.1]; rfl
                  · rw [show kk * 2 + j = (kk + j / 2) * 2 + 1 by omega, h9.2]; rfl) hfz2
                exact ⟨vs, fun ty => hvs⟩
              obtain ⟨vs, hvs⟩ := hcl
              obtain ⟨⟨ys, hy1, hy2⟩, hy3⟩ := own_setCells vs (kk * 2) wr _ HR3.out.1
              have HF : Hid (Compacted w base g n cap l (.returned (.slice (some ⟨g, 0, none⟩) kk cap)) (wr.setCells g (kk * 2) vs)) := comp_end HLN.out (by rw [← hend]; exact HR3.out.2.2) ys hy1 hy2 (HR3.out.2.1.trans hy3 fun k _ h => h)
              clear hy1 hy2 hy3 HR3 hds
              go_wp2
              go_ret
              exact HF.out
        · have hne : (x1 == y1 && x2 == y2) = false := by
            rw [Bool.eq_false_iff]; intro h; simp at h; exact hdup h
          have HN : Hid (∀ nq, (wr.drewN nq).ownsRow base 41 2 (.slice (some ⟨g, 0, none⟩) n cap) n (pV l) ∧ Turn (fun k => k = g) w (wr.drewN nq) ∧ ∀ j, j < k + 1 → keeps l.toArray j = true) := fun nq => ⟨own_drewN HR.out.1 _, HR.out.2.1.drewN _, fun j hj => by
            by_cases e : j = k
            · subst e; exact keeps_pg (by rw [HX.out.1, HX.out.2]; exact fun e => hdup (by cases e; exact ⟨rfl, rfl⟩))
            · exact HR.out.2.2 j (by omega)⟩
          clear HR HX hdup
          go_wp2_with fail
          go_quiet (fail)
          have HN2 := Lib.hid (HN.out nq)
          go_wp2
          go_roundg (n - (k + 1))
          case measure => omega
          case rel => exact ⟨k + 1, by omega, by omega, Nat.le_refl _, by go_num, HN2.out⟩
      · obtain rfl : k = n := by omega
        have HF : Hid (Compacted w base g k cap l (.returned (.slice (some ⟨g, 0, none⟩) k cap)) wr) := HS.out wr HO.out HR.out.2.1 HR.out.1 HR.out.2.2
        clear HS HR
        go_wp2
        go_ret
        exact HF.out
end Go.Proofs.Ytcoffankmmjehaa
