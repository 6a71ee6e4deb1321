/- Contract of apiarylaw16.without. -/
import Derived.Test.YtbmhnadnomngnaaQL
import Derived.Laws.OwnMore
namespace Go.Proofs.Ytbmhnadnomngnaa
open Go.RowKit Go.Lib

/-- append to a row of the call's own, of cells that lie anywhere, as one step of a region that draws. -/
theorem step_append_own {P : Program} {w : World} {ops : Array Oper} {o : Oper} {a : Act} {K : Act → World → Prop} {Q : Exit → Act → World → Prop} {E : Prop} (hgd : o.guard = none) (s x : Operand) (t : TypeId)
    (ho : o.op = .call { callee := .builtin .append, args := #[s, x], argTypes := #[t, t] })
    (base : Nat) (e : TypeId) (i : TypeInfo) (z : Value) (size bytes : Nat) (ht : P.underlying t = some (.slice e)) (hi : P.info? e = some i) (hz : i.zero = some z)
    (hsize : i.size = size) (hby : i.bytes = bytes) (hzs : z.cells.size = size) (hsz : 0 < size)
    (v : Value) (n : Nat) (xs : List Value) (hs : a.eval s = v) (hown : w.ownsRow base e size v n xs)
    (ad : Addr) (m c : Nat) (news : List Value) (hx : a.eval x = .slice (some ad) m c) (hl : news.length = m * size) (hnews : ∀ j u, news[j]? = some u → w.cell? (ad.add j) = some u) (h1 : ∀ u ∈ news, u.oneCell' = true)
    (h63 : n + m ≤ maxLen) (hbytes : (n + m) * bytes ≤ 140737488355328) (hbase : base ≤ w.heap.size)
    (h : ∀ v' w', w'.ownsRow base e size v' (n + m) (xs ++ news) → w.grownBy w' v.ownBlock → K (a.put o.dst v') w') :
    if Region.wanted o (yielded ops a.tmps) = true then Oper.wp P o a w K Q else E := by
  have hw : Region.wanted o (yielded ops a.tmps) = true := by simp [Region.wanted, hgd]
  rw [if_pos hw]
  obtain ⟨v', w', hr, h2, h3, _⟩ := run_append_own (P := P) w base t o.type e i z size bytes ht hi hz hsize hby hzs hsz v n xs hown ad m c news hl hnews h1 h63 hbytes hbase
  unfold Oper.wp execOp
  simp only [ho, resolve, invoke, builtin, Sem.run_bind, Sem.run_pure, Result.andThen_ok, List.map_toArray, List.map_cons, List.map_nil, hs, hx, hr]
  exact h v' w' h2 h3
/-- The weights from a place on, a part of them. -/
theorem news_part {w : World} {b off : Nat} {l : List Wt} (hc : ∀ i, i < l.length → w.cell? ⟨b, off + i * 2, none⟩ = some (.int .u64 (wg l i).1) ∧ w.cell? ⟨b, off + i * 2 + 1, none⟩ = some (.int .i64 (wg l i).2)) {p q : List Wt} {k : Nat} {r : List Wt} (hl : l = p ++ (q ++ r)) (hk : p.length = k) :
    ∀ j u, (wV q)[j]? = some u → w.cell? ((⟨b, off + k * 2, none⟩ : Addr).add j) = some u := fun j u hj => by
  have hadd : (⟨b, off + k * 2, none⟩ : Addr).add j = ⟨b, off + k * 2 + j, none⟩ := by unfold Addr.add; split <;> simp_all
  rw [hadd]
  have hjl : j < (wV q).length := (List.getElem?_eq_some_iff.1 hj).1
  rw [wV_length] at hjl
  have hw : wg l (k + j / 2) = wg q (j / 2) := by
    unfold wg
    rw [hl, List.getD_eq_getElem?_getD, List.getElem?_append_right (by omega), hk, show k + j / 2 - k = j / 2 by omega, List.getElem?_append_left (by omega), List.getD_eq_getElem?_getD]
  have hlen : k + j / 2 < l.length := by rw [hl, List.length_append, List.length_append]; omega
  have h1 := hc (k + j / 2) hlen
  rw [hw] at h1
  have h2 := wV_get q (j / 2) (by omega)
  rcases (show j % 2 = 0 ∨ j % 2 = 1 by omega) with e | e
  · have e1 : j / 2 * 2 = j := by omega
    rw [e1] at h2
    rw [show off + k * 2 + j = off + (k + j / 2) * 2 by omega, h1.1, ← hj, h2.1]
  · have e1 : j / 2 * 2 + 1 = j := by omega
    rw [e1] at h2
    rw [show off + k * 2 + j = off + (k + j / 2) * 2 + 1 by omega, h1.2, ← hj, h2.2]
def cutW (l : List Wt) (i : Nat) : List Wt := l.take i ++ l.drop (i + 1)
/-- What apiarylaw16.without tells. -/
def Without (w : World) (ao : Option Addr) (c : Nat) (l : List Wt) (id : Int) (e : Ending) (w' : World) : Prop :=
  (∃ i ao' c', i < l.length ∧ (wg l i).1 = id ∧ e = .returned (.tuple #[.slice ao' (l.length - 1) c', .bool true]) ∧ w'.ownsRow w.heap.size 28 2 (.slice ao' (l.length - 1) c') (l.length - 1) (wV (cutW l i)) ∧ Below w.heap.size w w') ∨
  ((∀ p ∈ l, p.1 ≠ id) ∧ e = .returned (.tuple #[.slice ao l.length c, .bool false]) ∧ w = w')
set_option maxRecDepth 100000 in
set_option maxHeartbeats 4000000 in
theorem without_any (ao : Option Addr) (c : Nat) (l : List Wt) (id : Int) (w : World) (h : WAt w ao l) (hn : l.length ≤ 1000) (hcap : l.length ≤ c) :
    Calls Try.prog 16 #[.slice ao l.length c, .int .u64 id] w (Without w ao c l id) := by
  obtain ⟨i0, hi, hz0, hz1, hz2⟩ := info_parts info_w
  have HFIN : Hid (Without w ao c l id = Without w ao c l id) := rfl
  obtain ⟨n, hnn⟩ : ∃ n, l.length = n := ⟨_, rfl⟩
  have HN := Lib.hid hnn
  have HW := Lib.hid h
  rw [hnn] at hn hcap ⊢
  clear hnn h HFIN
  go_enter Try.func16, Try.ntmps16
  go_wp2
  go_loop [6] (fun i => ∃ k : Nat, k ≤ n ∧ i = .int .i64 k ∧ Hid (∀ j, j < k → (wg l j).1 ≠ id)) (fun i => n - (RowKit.intOf i).toNat)
  case atStart => exact ⟨0, Nat.zero_le _, rfl, fun j hj => by omega⟩
  case round =>
    obtain ⟨k, hk, rfl, HA⟩ := hrel
    by_cases hlt : k < n
    · obtain ⟨b, off, rfl, hb, hc⟩ := HW.out (by rw [HN.out]; omega)
      obtain ⟨c0, c1⟩ := hc k (by rw [HN.out]; exact hlt)
      have HC := Lib.hid hc
      obtain ⟨x, hx⟩ : ∃ x, wg l k = x := ⟨_, rfl⟩
      rw [hx] at c0 c1
      have HX := Lib.hid hx
      clear hc hx
      by_cases he : x.1 = id
      · have q1 : (x.1 == id) = true := by simpa using he
        have HE := Lib.hid he
        clear he
        have hbE : Below w.heap.size w (w.alloc (.cells #[] 28)).drew := ((Below.refl w.heap.size w).alloc (Nat.le_refl _) _).drew
        have HBE := Lib.hid hbE
        have HE0 : Hid ((w.alloc (.cells #[] 28)).drew.ownsRow w.heap.size 28 2 (.slice (some ⟨w.heap.size, 0, none⟩) 0 0) 0 []) := World.ownsRow_lit (size := 2) (e := 28) w #[] 0 (Nat.le_refl _) (by decide) rfl
        have hcX : ∀ X, Below w.heap.size w X → ∀ i, i < l.length → X.cell? ⟨b, off + i * 2, none⟩ = some (.int .u64 (wg l i).1) ∧ X.cell? ⟨b, off + i * 2 + 1, none⟩ = some (.int .i64 (wg l i).2) := fun X hX i hi =>
          ⟨(hX.cell (p := ⟨b, off + i * 2, none⟩) hb).trans (HC.out i hi).1, (hX.cell (p := ⟨b, off + i * 2 + 1, none⟩) hb).trans (HC.out i hi).2⟩
        have HN1 : Hid (∀ X, Below w.heap.size w X → ∀ j u, (wV (l.take k))[j]? = some u → X.cell? ((⟨b, off, none⟩ : Addr).add j) = some u) := fun X hX j u hj => by
          have := news_part (hcX X hX) (p := []) (q := l.take k) (r := l.drop k) (k := 0) (by simp) rfl j u hj
          rwa [Nat.zero_mul, Nat.add_zero] at this
        have HN2 : Hid (∀ X, Below w.heap.size w X → ∀ j u, (wV (l.drop (k + 1)))[j]? = some u → X.cell? ((⟨b, off + (k + 1) * 2, none⟩ : Addr).add j) = some u) := fun X hX =>
          news_part (hcX X hX) (p := l.take (k + 1)) (q := l.drop (k + 1)) (r := []) (k := k + 1) (by simp) (by rw [List.length_take, HN.out]; omega)
        have HL1 : Hid ((wV (l.take k)).length = k * 2) := by show _ = _; rw [wV_length, List.length_take, HN.out]; omega
        have HL2 : Hid ((wV (l.drop (k + 1))).length = (n - (k + 1)) * 2) := by show _ = _; rw [wV_length, List.length_drop, HN.out]
        have HWITH : Hid (∀ v' w', w'.ownsRow w.heap.size 28 2 v' (n - 1) (wV (cutW l k)) → Below w.heap.size w w' → Without w (some ⟨b, off, none⟩) c l id (.returned (.tuple #[v', .bool true])) w') := fun v' w' ho hbl => by
          obtain ⟨ao', c', rfl, _, _⟩ := own_form ho
          exact .inl ⟨k, ao', c', by rw [HN.out]; exact hlt, by rw [HX.out]; exact HE.out, by rw [HN.out], by rw [HN.out]; exact ho, hbl⟩
        have hw1 : IntKind.i64.wrap ((k : Int) + 1) = (k : Int) + 1 := IntWalk.i64_in _ (by omega)
        have hb1 : (k : Int) + 1 ≤ (n : Int) := by omega
        have hb0 : (0 : Int) ≤ (k : Int) + 1 := by omega
        have hbk : (k : Int) ≤ (c : Int) := by omega
        clear hcX hbE HE
        by_cases hce : c = k + 1
        · subst hce
          obtain rfl : n = k + 1 := by omega
          have hbk2 : (k : Int) ≤ (k : Int) + 1 := by omega
          have HD0 : Hid (l.drop (k + 1) = []) := by show _ = _; exact List.drop_eq_nil_of_le (by rw [HN.out]; exact Nat.le_refl _)
          go_upto_region 5 with (fail)
          go_region_law (first
            | (refine step_append_own rfl (.tmp 20) (.tmp 23) 39 rfl w.heap.size 28 i0 (.agg #[.int .u64 0, .int .i64 0]) 2 16 Try.underlying39 hi hz0 hz1 hz2 rfl (by decide) (.slice (some ⟨w.heap.size, 0, none⟩) 0 0) 0 [] (by simp [Act.eval]) HE0.out ⟨b, off, none⟩ k (k + 1) (wV (l.take k)) (by simp [Act.eval]) HL1.out (HN1.out _ HBE.out) (wV_cell _) (by unfold maxLen; omega) (by omega) HBE.out.size ?_; intro v1 wA hA hgA; have hbA := below_append HBE.out HE0.out HBE.out.size hgA)
            | (refine step_append_own rfl (.tmp 24) (.tmp 28) 39 rfl w.heap.size 28 i0 (.agg #[.int .u64 0, .int .i64 0]) 2 16 Try.underlying39 hi hz0 hz1 hz2 rfl (by decide) v1 (0 + k) ([] ++ wV (l.take k)) (by simp [Act.eval]) hA ⟨b, off, none⟩ 0 0 [] (by simp [Act.eval]) rfl (fun j u h => by simp at h) (fun u h => by cases h) (by unfold maxLen; omega) (by omega) hbA.size ?_; intro v2 wB hB hgB; have hbB := below_append hbA hA hbA.size hgB))
          all_goals
            have HFF := Lib.hid (HWITH.out v2 wB (by
              rw [show 0 + k + 0 = k + 1 - 1 by omega, show ([] ++ wV (l.take k)) ++ [] = wV (cutW l k) by unfold cutW; rw [HD0.out, wV_append]; rfl] at hB
              exact hB) hbB)
            clear hA hgA hbA hB hgB hbB
            go_wp2
            go_ret2
            exact HFF.out
        · go_upto_region 5 with (fail)
          go_region_law (first
            | (refine step_append_own rfl (.tmp 20) (.tmp 23) 39 rfl w.heap.size 28 i0 (.agg #[.int .u64 0, .int .i64 0]) 2 16 Try.underlying39 hi hz0 hz1 hz2 rfl (by decide) (.slice (some ⟨w.heap.size, 0, none⟩) 0 0) 0 [] (by simp [Act.eval]) HE0.out ⟨b, off, none⟩ k c (wV (l.take k)) (by simp [Act.eval]) HL1.out (HN1.out _ HBE.out) (wV_cell _) (by unfold maxLen; omega) (by omega) HBE.out.size ?_; intro v1 wA hA hgA; have hbA := below_append HBE.out HE0.out HBE.out.size hgA)
            | (refine step_append_own rfl (.tmp 24) (.tmp 28) 39 rfl w.heap.size 28 i0 (.agg #[.int .u64 0, .int .i64 0]) 2 16 Try.underlying39 hi hz0 hz1 hz2 rfl (by decide) v1 (0 + k) ([] ++ wV (l.take k)) (by simp [Act.eval]) hA ⟨b, off + (k + 1) * 2, none⟩ (n - (k + 1)) (c - (k + 1)) (wV (l.drop (k + 1))) (by simp [Act.eval]) HL2.out (HN2.out _ hbA) (wV_cell _) (by unfold maxLen; omega) (by omega) hbA.size ?_; intro v2 wB hB hgB; have hbB := below_append hbA hA hbA.size hgB))
          all_goals
            have HFF := Lib.hid (HWITH.out v2 wB (by
              rw [show 0 + k + (n - (k + 1)) = n - 1 by omega, show ([] ++ wV (l.take k)) ++ wV (l.drop (k + 1)) = wV (cutW l k) by unfold cutW; rw [wV_append]; rfl] at hB
              exact hB) hbB)
            clear hA hgA hbA hB hgB hbB
            go_wp2
            go_ret2
            exact HFF.out
      · have q1 : (x.1 == id) = false := by simpa using he
        have HA2 : Hid (∀ j, j < k + 1 → (wg l j).1 ≠ id) := fun j hj => by
          by_cases e : j = k
          · rw [e, HX.out]; exact he
          · exact HA.out j (by omega)
        clear he
        go_wp2
        go_round
        case rel => exact ⟨k + 1, by omega, by go_num, HA2.out⟩
        case measure => simp [RowKit.intOf]; omega
    · obtain rfl : k = n := by omega
      have hJ : Hid (Without w ao c l id (.returned (.tuple #[.slice ao k c, .bool false])) w) := .inr ⟨fun p hp => by
        obtain ⟨j, hj, rfl⟩ := mem_wg hp
        exact HA.out j (by rw [HN.out] at hj; exact hj), by rw [HN.out], rfl⟩
      go_wp2
      go_ret2
      exact hJ.out
end Go.Proofs.Ytbmhnadnomngnaa
