/- Joined: DfA, DfC, DfB, CvG, CvH, LbA, LwA: contracts and plain laws, each with its own heading below. -/
import Derived.Test.YtdbfimdcaacjhaaGreatPackAH
import Derived.Test.YtdbfimdcaacjhaaGreatPackAC
import Derived.Lib.SliceRun
import Derived.Deep.LoopGhost
import Derived.Test.YtdbfimdcaacjhaaGreatPackAI
import Derived.Test.YtdbfimdcaacjhaaGreatPackAG
import Derived.Lib.MinMax
/- For the library's slices.IndexFunc and slices.DeleteFunc at []uint64: what is asked of the function, and what the loops keep. -/
namespace Go.Proofs.YtdbfimdcaacjhaaGreat
open Go.RowKit Go.Lib

/-- What a function tells of a number, in whatever world in which all but one block lie as they did. -/
def AskU (g : Nat) (cb : Array Value) (p : Int → Bool) (w : World) (blk : Nat) (l : List Int) : Prop :=
  ∀ (W : World) (x : Int), Turn (fun k => k = blk) w W → x ∈ l → Calls Tryz.prog g (#[.int .u64 x] ++ cb) W fun e w' => e = .returned (.bool (p x)) ∧ Below W.heap.size W w'
theorem AskU.later {g : Nat} {cb : Array Value} {p : Int → Bool} {w w' : World} {blk : Nat} {l : List Int} (h : AskU g cb p w blk l) (ht : Turn (fun k => k = blk) w w') : AskU g cb p w' blk l :=
  fun W x hW hx => h W x (ht.trans hW fun _ _ hk => hk) hx
/-- The first that it says yes to; the length, if none. -/
def firstF (p : Int → Bool) (l : List Int) : Nat := l.findIdx p
theorem first_at {p : Int → Bool} {l : List Int} {k : Nat} (hk : k < l.length) (h1 : ∀ j, j < k → p (l.getD j 0) = false) (h2 : p (l.getD k 0) = true) : firstF p l = k := by
  unfold firstF
  rw [List.findIdx_eq hk]
  refine ⟨by rw [List.getD_eq_getElem?_getD, List.getElem?_eq_getElem hk] at h2; exact h2, fun j hj => ?_⟩
  have := h1 j hj
  rw [List.getD_eq_getElem?_getD, List.getElem?_eq_getElem (show j < l.length by omega)] at this
  exact this
theorem first_none {p : Int → Bool} {l : List Int} (h1 : ∀ j, j < l.length → p (l.getD j 0) = false) : firstF p l = l.length ∧ l.filter (fun x => !p x) = l := by
  have h : ∀ x ∈ l, p x = false := fun x hx => by
    obtain ⟨j, hj, rfl⟩ := List.mem_iff_getElem.1 hx
    have := h1 j hj
    rwa [List.getD_eq_getElem?_getD, List.getElem?_eq_getElem hj] at this
  refine ⟨?_, List.filter_eq_self.2 fun x hx => by rw [h x hx]; rfl⟩
  unfold firstF
  exact List.findIdx_eq_length_of_false h
/-- What IndexFunc tells. -/
def idxN (p : Int → Bool) (l : List Int) : Int := if firstF p l < l.length then (firstF p l : Int) else -1
/-- At the head of the loop that strikes: j have been looked at, i of them stay. -/
def DfI (p : Int → Bool) (l : List Int) (j i : Nat) (dk : List Int) : Prop :=
  dk.length = l.length ∧ i < j ∧ (l.take j).filter (fun x => !p x) = dk.take i ∧ ∀ t, j ≤ t → dk[t]? = l[t]?
theorem df_take {l : List Int} {j : Nat} (hj : j < l.length) : l.take (j + 1) = l.take j ++ [l.getD j 0] := by
  rw [List.take_add_one, List.getElem?_eq_getElem hj, List.getD_eq_getElem?_getD, List.getElem?_eq_getElem hj]; rfl
theorem df_start {p : Int → Bool} {l : List Int} {k : Nat} (hk : k < l.length) (h1 : ∀ j, j < k → p (l.getD j 0) = false) (h2 : p (l.getD k 0) = true) : DfI p l (k + 1) k l := by
  refine ⟨rfl, Nat.lt_succ_self _, ?_, fun _ _ => rfl⟩
  rw [df_take hk, List.filter_append, List.filter_cons_of_neg (by rw [h2]; simp), List.filter_nil, List.append_nil]
  refine List.filter_eq_self.2 fun x hx => ?_
  obtain ⟨t, ht, rfl⟩ := List.mem_iff_getElem.1 hx
  have ht2 : t < k := by simp at ht; omega
  have := h1 t ht2
  rw [List.getD_eq_getElem?_getD, List.getElem?_eq_getElem (show t < l.length by omega)] at this
  rw [List.getElem_take, show p l[t] = false from this]; rfl
theorem df_keep {p : Int → Bool} {l dk : List Int} {j i : Nat} (h : DfI p l j i dk) (hj : j < l.length) (hp : p (l.getD j 0) = false) : DfI p l (j + 1) (i + 1) (dk.set i (l.getD j 0)) := by
  obtain ⟨h1, h2, h3, h4⟩ := h
  refine ⟨by simpa using h1, by omega, ?_, fun t ht => ?_⟩
  · rw [df_take hj, List.filter_append, h3, List.filter_cons_of_pos (by rw [hp]; rfl), List.filter_nil, List.take_add_one]
    rw [List.take_set_of_le (Nat.le_refl _), List.getElem?_set_self (by omega)]; rfl
  · rw [List.getElem?_set_ne (by omega)]; exact h4 t (by omega)
theorem df_skip {p : Int → Bool} {l dk : List Int} {j i : Nat} (h : DfI p l j i dk) (hj : j < l.length) (hp : p (l.getD j 0) = true) : DfI p l (j + 1) i dk := by
  obtain ⟨h1, h2, h3, h4⟩ := h
  refine ⟨h1, by omega, ?_, fun t ht => h4 t (by omega)⟩
  rw [df_take hj, List.filter_append, h3, List.filter_cons_of_neg (by rw [hp]; simp), List.filter_nil, List.append_nil]
theorem own_setCells {base n cap size g : Nat} {e : TypeId} : ∀ (vs : List Value) (o : Nat) (w : World) (xs : List Value), w.ownsRow base e size (.slice (some ⟨g, 0, none⟩) n cap) n xs → ∃ ys, (w.setCells g o vs).ownsRow base e size (.slice (some ⟨g, 0, none⟩) n cap) n ys ∧ ys.take o = xs.take o
  | [], _, _, xs, h => ⟨xs, h, rfl⟩
  | v :: r, o, _, xs, h => by
    obtain ⟨ys, h1, h2⟩ := own_setCells r (o + 1) _ _ (own_set h o v)
    refine ⟨ys, h1, ?_⟩
    have := congrArg (List.take o) h2
    rw [List.take_take, List.take_take, Nat.min_eq_left (by omega), List.take_set_of_le (Nat.le_refl _)] at this
    exact this
theorem turn_setCells {g : Nat} : ∀ (vs : List Value) (o : Nat) (w0 w : World), Turn (fun k => k = g) w0 w → Turn (fun k => k = g) w0 (w.setCells g o vs)
  | [], _, _, _, h => h
  | v :: r, o, w0, _, h => turn_setCells r (o + 1) w0 _ (Turn.setCell (S := fun k => k = g) (a := ⟨g, o, none⟩) h rfl v)
theorem uV_set (l : List Int) (i : Nat) (x : Int) : uV (l.set i x) = (uV l).set i (.int .u64 x) := by unfold uV; rw [List.map_set]
theorem uV_take (l : List Int) (i : Nat) : uV (l.take i) = (uV l).take i := by unfold uV; rw [List.map_take]
theorem own_cells {w : World} {base g n c : Nat} {l : List Int} (h : w.ownsRow base 35 1 (.slice (some ⟨g, 0, none⟩) n c) n (uV l)) (hl : l.length = n) : g < w.heap.size ∧ ∀ i, i < n → w.cell? ⟨g, i, none⟩ = some (.int .u64 (l.getD i 0)) ∧ w.frozen? ⟨g, i, none⟩ = false := by
  obtain ⟨cur, hh, _⟩ := own_block h
  refine ⟨(Array.getElem?_eq_some_iff.1 hh).1, fun i hi => ⟨?_, h.frozenAt i⟩⟩
  rw [h.cellAt i (by omega), uV_get l i (by omega)]
end Go.Proofs.YtdbfimdcaacjhaaGreat
/- Contracts of the library's slices.IndexFunc and slices.DeleteFunc at []uint64, with the function apiary/cover.Centres$1. -/
namespace Go.Proofs.YtdbfimdcaacjhaaGreat
open Go.RowKit Go.Lib

set_option maxRecDepth 100000 in
set_option maxHeartbeats 4000000 in
theorem cenindex_any (cb : Array Value) (p : Int → Bool) (ao : Option Addr) (n c : Nat) (l : List Int) (w : World) (blk : Nat) (hn : l.length = n) (hbig : n ≤ 1000000)
    (hw : WordsAt w w.heap.size ao l) (ha : AskU 61 cb p w blk l) :
    Calls Tryz.prog 96 #[.slice ao n c, .func (.func 61) #[] cb] w fun e w' => e = .returned (.int .i64 (idxN p l)) ∧ Below w.heap.size w w' := by
  have HW := Lib.hid hw
  have HA := Lib.hid ha
  have HN := Lib.hid hn
  have HY : Hid (∀ k, k < l.length → (∀ j, j < k → p (l.getD j 0) = false) → p (l.getD k 0) = true → idxN p l = k) := fun k hk h1 h2 => by
    unfold idxN; rw [first_at hk h1 h2, if_pos hk]
  have HZ : Hid ((∀ j, j < l.length → p (l.getD j 0) = false) → idxN p l = -1) := fun h => by
    unfold idxN; rw [(first_none h).1, if_neg (Nat.lt_irrefl _)]
  generalize idxN p l = res at *
  clear hw ha hn
  go_enter Tryz.func96, Tryz.ntmps96
  go_upto_region 2 with (fail)
  go_loopg [5, 8] n (fun q _ s8 wr => ∃ k : Nat, k ≤ n ∧ n - k ≤ q ∧ s8 = .int .i64 k ∧ Hid (Below w.heap.size w wr ∧ ∀ j, j < k → p (l.getD j 0) = false))
  case atStart => exact ⟨0, by omega, by omega, by go_num, Below.refl _ _, fun j hj => by omega⟩
  case round =>
    obtain ⟨k, hk, hq, rfl, HR⟩ := hrel
    by_cases hlt : k < n
    · obtain ⟨b, off, rfl, hb, hc⟩ := (HW.out.below HR.out.1 (Nat.le_refl _)) (by have := HN.out; omega)
      have c0 := hc k (by have := HN.out; omega)
      have hki : (k : Int) < (n : Int) := by omega
      have hcall := HA.out wr (l.getD k 0) (Turn.of_below HR.out.1) (by rw [List.getD_eq_getElem?_getD, List.getElem?_eq_getElem (by have := HN.out; omega)]; exact List.getElem_mem _)
      obtain ⟨x, hx⟩ : ∃ x, l.getD k 0 = x := ⟨_, rfl⟩
      have HX := Lib.hid hx
      rw [hx] at c0 hcall
      clear hc hx hb
      cases hp : p x with
      | true =>
        rw [hp] at hcall
        go_wp2_with (go_at_call 61; refine hcall.mono ?_; rintro e w2 ⟨rfl, hb2⟩)
        go_ret
        exact ⟨by rw [HY.out k (by have := HN.out; omega) HR.out.2 (by rw [HX.out]; exact hp)]; rfl, HR.out.1.trans (hb2.mono HR.out.1.size)⟩
      | false =>
        rw [hp] at hcall
        go_wp2_with (go_at_call 61; refine hcall.mono ?_; rintro e w2 ⟨rfl, hb2⟩)
        go_roundg (n - (k + 1))
        case measure => omega
        case rel =>
          refine ⟨k + 1, by omega, Nat.le_refl _, by go_num, HR.out.1.trans (hb2.mono HR.out.1.size), fun j hj => ?_⟩
          by_cases e : j = k
          · subst e; rw [HX.out]; exact hp
          · exact HR.out.2 j (by omega)
    · obtain rfl : k = n := by omega
      have hki : ¬ (k : Int) < (k : Int) := by omega
      go_wp2
      go_ret
      exact ⟨by rw [HZ.out fun j hj => HR.out.2 j (by have := HN.out; omega)]; rfl, HR.out.1⟩
set_option maxRecDepth 100000 in
set_option maxHeartbeats 8000000 in
theorem cendelete_any (cb : Array Value) (p : Int → Bool) (ao : Option Addr) (n c : Nat) (l : List Int) (w : World) (B blk : Nat) (hn : l.length = n) (hbig : n ≤ 1000000)
    (_hB : B ≤ w.heap.size) (ho : w.ownsRow B 35 1 (.slice ao n c) n (uV l)) (ha : AskU 61 cb p w blk l) (hblk : ∀ g o s, ao = some ⟨g, o, s⟩ → g = blk) :
    Calls Tryz.prog 60 #[.slice ao n c, .func (.func 61) #[] cb] w fun e w' => e = .returned (.slice ao (l.filter fun x => !p x).length c) ∧ w'.ownsRow B 35 1 (.slice ao (l.filter fun x => !p x).length c) (l.filter fun x => !p x).length (uV (l.filter fun x => !p x)) ∧ Turn (fun k => ao = some ⟨k, 0, none⟩) w w' := by
  have v23 : ∀ w, (zeroValue 35).run Tryz.prog w = .ok (.int .u64 0) w := fun _ => by kernel_rfl
  have HIF := Lib.hid (cenindex_any cb p ao n c l w blk hn hbig (words_own hn.symm ho) ha)
  have HO := Lib.hid ho
  have HA := Lib.hid ha
  have HN := Lib.hid hn
  have HBK := Lib.hid hblk
  by_cases hall : ∀ j, j < l.length → p (l.getD j 0) = false
  · have h1 := first_none hall
    have e1 : idxN p l = -1 := by unfold idxN; rw [h1.1, if_neg (Nat.lt_irrefl _)]
    rw [h1.2]
    rw [e1] at HIF
    rw [hn]
    clear ho ha hn hblk hall h1 e1
    go_enter Tryz.func60, Tryz.ntmps60
    go_wp2_with fail
    refine HIF.out.mono ?_
    rintro e w1 ⟨rfl, hb1⟩
    go_wp2
    go_ret
    exact ⟨rfl, own_later HO.out hb1, Turn.of_below hb1⟩
  · obtain ⟨k0, hk0, hno, hyes⟩ : ∃ k, k < l.length ∧ (∀ j, j < k → p (l.getD j 0) = false) ∧ p (l.getD k 0) = true := by
      by_cases h : firstF p l < l.length
      · refine ⟨firstF p l, h, fun j hj => ?_, ?_⟩
        · have := List.not_of_lt_findIdx (p := p) (xs := l) hj
          rw [List.getD_eq_getElem?_getD, List.getElem?_eq_getElem (Nat.lt_trans hj h)]
          simpa using this
        · rw [List.getD_eq_getElem?_getD, List.getElem?_eq_getElem h]
          exact List.findIdx_getElem (w := h)
      · exact absurd (fun j hj => by
          have h2 := List.not_of_lt_findIdx (p := p) (xs := l) (i := j) (by unfold firstF at h; omega)
          rw [List.getD_eq_getElem?_getD, List.getElem?_eq_getElem hj]
          simpa using h2) hall
    have e1 : idxN p l = k0 := by unfold idxN; rw [first_at hk0 hno hyes, if_pos hk0]
    rw [e1] at HIF
    obtain ⟨g, rfl⟩ : ∃ g, ao = some ⟨g, 0, none⟩ := by
      obtain ⟨_, _, e, _, _⟩ := own_form ho
      rcases ho.2 with ⟨hv, h0⟩ | ⟨g, cap, cur, hv, _⟩
      · omega
      · cases hv; exact ⟨g, rfl⟩
    obtain rfl : g = blk := hblk g 0 none rfl
    have HS := Lib.hid (df_start hk0 hno hyes)
    have hk0n : k0 < n := by omega
    obtain ⟨F, hF⟩ : ∃ F, (l.filter fun x => !p x) = F := ⟨_, rfl⟩
    have HF := Lib.hid hF
    obtain ⟨m, hm⟩ : ∃ m, F.length = m := ⟨_, rfl⟩
    have HM := Lib.hid hm
    rw [hF, hm]
    have hgw := (own_cells ho hn).1
    clear ho ha hn hblk hall e1 hno hyes hk0 hF hm
    go_enter Tryz.func60, Tryz.ntmps60
    go_wp2_with fail
    refine HIF.out.mono ?_
    rintro e w1 ⟨rfl, hb1⟩
    have HB1 := Lib.hid hb1
    have hgw1 : g < w1.heap.size := Nat.lt_of_lt_of_le hgw hb1.size
    clear hb1
    have hne1 : ((k0 : Int) == -1) = false := beq_eq_false_iff_ne.2 (by omega)
    go_upto_region 5 with (fail)
    go_loopg [5, 6, 7] n (fun q s5 s6 _ wr => ∃ (i j : Nat) (dk : List Int), j ≤ n ∧ i < j ∧ n - j ≤ q ∧ s5 = .int .i64 i ∧ s6 = .int .i64 j ∧ Hid (DfI p l j i dk ∧ wr.ownsRow B 35 1 (.slice (some ⟨g, 0, none⟩) n c) n (uV dk) ∧ Turn (fun k => k = g) w wr))
    case atStart => exact ⟨k0, k0 + 1, l, by omega, by omega, by omega, rfl, by go_num, HS.out, own_later HO.out HB1.out, Turn.of_below HB1.out⟩
    case round =>
      obtain ⟨i, j, dk, hj, hij, hq, rfl, rfl, HR⟩ := hrel
      have hdl : dk.length = n := by rw [HR.out.1.1]; exact HN.out
      obtain ⟨hgr, hcells⟩ := own_cells HR.out.2.1 hdl
      by_cases hlt : j < n
      · obtain ⟨c0, _⟩ := hcells j hlt
        obtain ⟨c1, f1⟩ := hcells i (by omega)
        have e0 : dk.getD j 0 = l.getD j 0 := by rw [List.getD_eq_getElem?_getD, HR.out.1.2.2.2 j (Nat.le_refl _), ← List.getD_eq_getElem?_getD]
        rw [e0] at c0
        have hcall := HA.out wr (l.getD j 0) HR.out.2.2 (by rw [List.getD_eq_getElem?_getD, List.getElem?_eq_getElem (by have := HN.out; omega)]; exact List.getElem_mem _)
        have hki : (j : Int) < (n : Int) := by omega
        obtain ⟨x, hx⟩ : ∃ x, l.getD j 0 = x := ⟨_, rfl⟩
        have HX := Lib.hid hx
        rw [hx] at c0 hcall
        clear hcells e0 hx hdl
        cases hp : p x with
        | true =>
          rw [hp] at hcall
          go_wp2_with (go_at_call 61; refine hcall.mono ?_; rintro e w2 ⟨rfl, hb2⟩)
          go_roundg (n - (j + 1))
          case measure => omega
          case rel => exact ⟨i, j + 1, dk, by omega, by omega, Nat.le_refl _, rfl, by go_num, df_skip HR.out.1 (by have := HN.out; omega) (by rw [HX.out]; exact hp), own_later HR.out.2.1 hb2, HR.out.2.2.trans (Turn.of_below (S := fun k => k = g) hb2) fun _ _ h => h⟩
        | false =>
          rw [hp] at hcall
          go_upto_region 8 with (fail)
          go_wp2_with (go_at_call 61; refine hcall.mono ?_; rintro e w2 ⟨rfl, hb2⟩; have c2 : w2.cell? ⟨g, i, none⟩ = some (.int .u64 (dk.getD i 0)) := (hb2.cell (p := ⟨g, i, none⟩) hgr).trans c1; have f2 : w2.frozen? ⟨g, i, none⟩ = false := (own_later HR.out.2.1 hb2).frozenAt i)
          go_roundg (n - (j + 1))
          case measure => omega
          case rel =>
            refine ⟨i + 1, j + 1, dk.set i x, by omega, by omega, Nat.le_refl _, by go_num, by go_num, ?_, ?_, ?_⟩
            · have := df_keep HR.out.1 (by have := HN.out; omega) (by rw [HX.out]; exact hp)
              rwa [HX.out] at this
            · rw [uV_set]; exact own_drew (own_set (own_later HR.out.2.1 hb2) i _)
            · exact (Turn.setCell (S := fun k => k = g) (a := ⟨g, i, none⟩) (HR.out.2.2.trans (Turn.of_below (S := fun k => k = g) hb2) fun _ _ h => h) rfl _).drew
      · obtain rfl : j = n := by omega
        have hki : ¬ (j : Int) < (j : Int) := by omega
        have hic : j ≤ c := by
          obtain ⟨cur, _, _, h, _⟩ := own_block HR.out.2.1
          exact h
        have hcl : ∀ ty, (Builtin.clear_ #[31] ty #[.slice (some ⟨g, i, none⟩) (j - i) (c - i)]).run Tryz.prog wr = .ok (.tuple #[]) (wr.setCells g i (List.replicate (j - i) (.int .u64 0))) :=
          fun ty => Lib.run_clear_slice wr _ _ ty _ Tryz.underlying31 v23 rfl rfl g i _ _ (by omega) (fun t ht => by rw [(hcells (i + t) (by omega)).1]; rfl) (fun t ht => (hcells (i + t) (by omega)).2)
        have HFI : Hid (F = dk.take i ∧ F.length = i) := by
          have e2 := HR.out.1.2.2.1
          rw [List.take_of_length_le (by rw [HN.out]; exact Nat.le_refl _), HF.out] at e2
          exact ⟨e2, by rw [e2, List.length_take, hdl]; omega⟩
        have HE : Hid ((wr.setCells g i (List.replicate (j - i) (.int .u64 0))).ownsRow B 35 1 (.slice (some ⟨g, 0, none⟩) i c) i (uV F) ∧ Turn (fun k => k = g) w (wr.setCells g i (List.replicate (j - i) (.int .u64 0)))) := by
          obtain ⟨ys, h1, h2⟩ := own_setCells (List.replicate (j - i) (.int .u64 0)) i _ _ HR.out.2.1
          refine ⟨?_, turn_setCells _ _ _ _ HR.out.2.2⟩
          have h3 := own_take h1 (m := i) (by omega)
          rw [Nat.mul_one, h2, ← uV_take, ← HFI.out.1] at h3
          exact h3
        have him : i = m := by rw [← HM.out]; exact HFI.out.2.symm
        clear hcells hdl
        subst him
        go_wp2
        go_ret
        exact ⟨rfl, HE.out.1, HE.out.2.2.2.2.1 |> fun h5 => ⟨HE.out.2.1, HE.out.2.2.1, HE.out.2.2.2.1, h5, fun k hk hs => HE.out.2.2.2.2.2 k hk fun e => hs (by rw [e])⟩⟩
end Go.Proofs.YtdbfimdcaacjhaaGreat
/- Contract of cover.Centres: of Box's cells those whose centres lie in the box. -/
namespace Go.Proofs.YtdbfimdcaacjhaaGreat
open Go.RowKit Go.Lib Wd Cv

/-- Whether a point lies in a box. -/
def inB (lo hi p : E2) : Bool := !(decide (p.1 < lo.1) || decide (hi.1 < p.1) || decide (p.2 < lo.2) || decide (hi.2 < p.2))
theorem inB_iff (lo hi p : E2) : inB lo hi p = true ↔ lo.1 ≤ p.1 ∧ p.1 ≤ hi.1 ∧ lo.2 ≤ p.2 ∧ p.2 ≤ hi.2 := by
  unfold inB; simp; omega
/-- Whether a word's centre lies in a box. -/
def cenB (r : Nat) (lo hi : E2) (x : Int) : Bool := inB lo hi (atE (12 - r) (zW x.toNat))
set_option maxRecDepth 100000 in
set_option maxHeartbeats 4000000 in
theorem ask_any (r : Nat) (lo hi : E2) {z : E2} (hz : okB r z = true) (b0 b1 b2 : Nat) (w : World) (h0 : w.cell? ⟨b0, 0, none⟩ = some (.int .i64 r)) (h1 : w.heap[b1]? = some (.cells #[.int .i64 lo.1, .int .i64 lo.2] 30 (0, 0))) (h2 : w.heap[b2]? = some (.cells #[.int .i64 hi.1, .int .i64 hi.2] 30 (0, 0))) (hb0 : b0 < w.heap.size) :
    Calls Tryz.prog 61 (#[.int .u64 (wordN r z : Nat)] ++ #[.pointer (some ⟨b0, 0, none⟩), .pointer (some ⟨b1, 0, none⟩), .pointer (some ⟨b2, 0, none⟩)]) w fun e w' => e = .returned (.bool (!cenB r lo hi (wordN r z : Nat))) ∧ Below w.heap.size w w' := by
  obtain ⟨v1, v2, v3⟩ := word_cell hz
  have hr := (okB_parts hz).1
  have hlt := (wordN_lt hz).1
  have HC := Lib.hid (cell_any (wordN r z) (by omega))
  have e1 : cvR (wordN r z) = r := by unfold cvR; rw [if_pos v1, v2]
  have e2 : cvZ (wordN r z) = z := by unfold cvZ; rw [if_pos v1, v3]
  rw [e1, e2] at HC
  have hsm : Sm 1073741824 z := by
    have := (shapeB_iff r z).1 ((okB_iff r z).1 hz).1
    unfold Sm; omega
  have HCE := Lib.hid (fun w => centre_in z hsm r hr w)
  have HF : Hid ((!cenB r lo hi (wordN r z : Nat)) = (decide ((atE (12 - r) z).1 < lo.1) || decide (hi.1 < (atE (12 - r) z).1) || decide ((atE (12 - r) z).2 < lo.2) || decide (hi.2 < (atE (12 - r) z).2))) := by
    show _ = _
    unfold cenB inB
    rw [Int.toNat_natCast, v3, Bool.not_not]
  generalize (!cenB r lo hi (wordN r z : Nat)) = res at *
  generalize wordN r z = wd at *
  generalize atE (12 - r) z = p at *
  obtain ⟨x, y⟩ := p
  obtain ⟨lx, ly⟩ := lo
  obtain ⟨hx, hy⟩ := hi
  have HB0 : Hid (∀ W, Below w.heap.size w W → (W.cell? ⟨b0, 0, none⟩ = some (.int .i64 r)) ∧ W.heap[b1]? = some (.cells #[.int .i64 lx, .int .i64 ly] 30 (0, 0)) ∧ W.heap[b2]? = some (.cells #[.int .i64 hx, .int .i64 hy] 30 (0, 0))) := fun W hW =>
    ⟨(hW.cell (p := ⟨b0, 0, none⟩) hb0).trans h0, (hW.block b1 (Array.getElem?_eq_some_iff.1 h1).1).trans h1, (hW.block b2 (Array.getElem?_eq_some_iff.1 h2).1).trans h2⟩
  simp only at HF
  clear h0 h1 h2 hb0 v1 v2 v3 e1 e2 hlt hz hsm hr
  show Calls Tryz.prog 61 #[.int .u64 wd, .pointer (some ⟨b0, 0, none⟩), .pointer (some ⟨b1, 0, none⟩), .pointer (some ⟨b2, 0, none⟩)] w _
  go_enter Tryz.func61, Tryz.ntmps61
  go_wp2_with fail
  refine (HC.out _).mono ?_
  rintro e w1 ⟨rfl, hb1⟩
  have HB1 := Lib.hid hb1
  clear hb1 HC
  simp only [vC, vE] at *
  go_upto_region 2 with (fail)
  have K1 : Below w.heap.size w (w1.alloc (.cells #[.int .i64 r, .int .i64 z.1, .int .i64 z.2] 27)) := HB1.out.alloc HB1.out.size _
  have x1 : (w1.alloc (.cells #[.int .i64 r, .int .i64 z.1, .int .i64 z.2] 27)).heap[w1.heap.size]? = some (.cells #[.int .i64 r, .int .i64 z.1, .int .i64 z.2] 27 (0, 0)) := heap_new _ _ _ rfl
  generalize w1.alloc (.cells #[.int .i64 r, .int .i64 z.1, .int .i64 z.2] 27) = w2 at *
  generalize w1.heap.size = d at *
  have d1 : w2.cell? ⟨d, 1, none⟩ = some (.int .i64 z.1) := cell_of_row _ _ 1 _ _ _ x1
  have d2 : w2.cell? ⟨d, 2, none⟩ = some (.int .i64 z.2) := cell_of_row _ _ 2 _ _ _ x1
  obtain ⟨a0, a1, a2⟩ := HB0.out _ K1
  have HB2 := Lib.hid K1
  clear K1 x1 HB1 a1 a2
  go_wp2_with fail
  refine (HCE.out _).mono ?_
  rintro e w3 ⟨rfl, hb3⟩
  have HB3 := Lib.hid (HB2.out.trans (hb3.mono HB2.out.size))
  clear hb3 d1 d2 a0 HCE HB2
  obtain ⟨_, a1, a2⟩ := HB0.out _ HB3.out
  have l0 : w3.cell? ⟨b1, 0, none⟩ = some (.int .i64 lx) := cell_of_row _ _ 0 _ _ _ a1
  have l1 : w3.cell? ⟨b1, 1, none⟩ = some (.int .i64 ly) := cell_of_row _ _ 1 _ _ _ a1
  have u0 : w3.cell? ⟨b2, 0, none⟩ = some (.int .i64 hx) := cell_of_row _ _ 0 _ _ _ a2
  have u1 : w3.cell? ⟨b2, 1, none⟩ = some (.int .i64 hy) := cell_of_row _ _ 1 _ _ _ a2
  have g1 := (Array.getElem?_eq_some_iff.1 a1).1
  have g2 := (Array.getElem?_eq_some_iff.1 a2).1
  clear a1 a2 HB0
  go_upto_region 3 with (fail)
  by_cases c1 : x < lx
  · have hv : Hid (res = true) := by show _ = _; rw [HF.out, decide_eq_true c1]; rfl
    clear HF
    go_wp2_with (first | (with_reducible refine wp_region_lex (by kernel_rfl) (by kernel_rfl) ?_) | (with_reducible refine OnlyG.intro (by kernel_rfl) ?_))
    go_ret
    exact ⟨by rw [hv.out]; rfl, HB3.out⟩
  · by_cases c2 : hx < x
    · have hv : Hid (res = true) := by show _ = _; rw [HF.out, decide_eq_true c2]; simp
      clear HF
      go_wp2_with (first | (with_reducible refine wp_region_lex (by kernel_rfl) (by kernel_rfl) ?_) | (with_reducible refine OnlyG.intro (by kernel_rfl) ?_))
      go_ret
      exact ⟨by rw [hv.out]; rfl, HB3.out⟩
    · by_cases c3 : y < ly
      · have hv : Hid (res = true) := by show _ = _; rw [HF.out, decide_eq_true c3]; simp
        clear HF
        go_wp2_with (first | (with_reducible refine wp_region_lex (by kernel_rfl) (by kernel_rfl) ?_) | (with_reducible refine OnlyG.intro (by kernel_rfl) ?_))
        go_ret
        exact ⟨by rw [hv.out]; rfl, HB3.out⟩
      · have hv : Hid (res = decide (hy < y)) := by show _ = _; rw [HF.out, decide_eq_false c1, decide_eq_false c2, decide_eq_false c3]; simp
        clear HF
        go_wp2_with (first | (with_reducible refine wp_region_lex (by kernel_rfl) (by kernel_rfl) ?_) | (with_reducible refine OnlyG.intro (by kernel_rfl) ?_))
        go_ret
        exact ⟨by rw [hv.out]; rfl, HB3.out⟩
/-- What Centres tells. -/
def CenP (w : World) (lo hi : E2) (r : Int) (e : Ending) (w' : World) : Prop :=
  if chE lo hi r = 0 then
    (∃ D L ao c n, AllOf (12 - r.toNat) (triE lo) (triE hi) D ∧ D.length ≤ 20000 ∧ L = (srt (wsL r.toNat D)).filter (cenB r.toNat lo hi) ∧ e = .returned (.tuple #[.slice ao n c, .int .i64 0]) ∧ n = L.length ∧ w'.ownsRow w.heap.size 35 1 (.slice ao n c) n (uV L)) ∨
    (∃ D : List E2, D.Nodup ∧ D.length = 20001 ∧ (∀ z ∈ D, TouchP (hexC (12 - r.toNat) z) (triE lo) (triE hi)) ∧ e = .returned (.tuple #[.slice none 0 0, .int .i64 7]))
  else e = .returned (.tuple #[.slice none 0 0, .int .i64 (chE lo hi r)])
set_option maxRecDepth 100000 in
set_option maxHeartbeats 4000000 in
theorem centres_any (lo hi : E2) (r : Int) (w : World) : Calls Tryz.prog 24 #[vE lo, vE hi, .int .i64 r] w fun e w' => CenP w lo hi r e w' ∧ Below w.heap.size w w' := by
  have hmf : ∀ (fn : Fn) (first cap : Array Value) (w : World), (Instr.makeFunc fn first cap).run Tryz.prog w = .ok (.func fn first cap) w := fun _ _ _ _ => rfl
  have HBX := Lib.hid (fun w => box_any lo hi r w)
  obtain ⟨lx, ly⟩ := lo
  obtain ⟨hx, hy⟩ := hi
  obtain ⟨w1, hw1⟩ : ∃ W, ((w.alloc (.cells #[.int .i64 lx, .int .i64 ly] 30)).alloc (.cells #[.int .i64 hx, .int .i64 hy] 30)).alloc (.cells #[.int .i64 r] 3) = W := ⟨_, rfl⟩
  have hb1 : Below w.heap.size w w1 := by rw [← hw1]; exact (((Below.refl _ _).alloc (Nat.le_refl _) _).alloc (by simp) _).alloc (by simp only [World.size_alloc]; omega) _
  have x0 : w1.heap[w.heap.size]? = some (.cells #[.int .i64 lx, .int .i64 ly] 30 (0, 0)) := by
    rw [← hw1, Below.heap_alloc _ _ _ (by simp only [World.size_alloc]; omega), Below.heap_alloc _ _ _ (by simp)]; exact heap_new _ _ _ rfl
  have x1 : w1.heap[w.heap.size + 1]? = some (.cells #[.int .i64 hx, .int .i64 hy] 30 (0, 0)) := by
    rw [← hw1, Below.heap_alloc _ _ _ (by simp)]; exact heap_new _ _ _ (by simp)
  have x2 : w1.heap[w.heap.size + 1 + 1]? = some (.cells #[.int .i64 r] 3 (0, 0)) := by
    rw [← hw1]; exact heap_new _ _ _ (by simp)
  have lt : ∀ {k : Nat} {o : Obj}, w1.heap[k]? = some o → k < w1.heap.size := fun h => (Array.getElem?_eq_some_iff.1 h).1
  have HA : Hid (∀ wx (B : Nat), Below B w1 wx → w1.heap.size ≤ B → (wx.heap[w.heap.size]? = some (.cells #[.int .i64 lx, .int .i64 ly] 30 (0, 0)) ∧ wx.heap[w.heap.size + 1]? = some (.cells #[.int .i64 hx, .int .i64 hy] 30 (0, 0)) ∧ wx.heap[w.heap.size + 1 + 1]? = some (.cells #[.int .i64 r] 3 (0, 0)))) := fun wx B hx hB =>
    ⟨(hx.block _ (by have := lt x0; omega)).trans x0, (hx.block _ (by have := lt x1; omega)).trans x1, (hx.block _ (by have := lt x2; omega)).trans x2⟩
  have HB := Lib.hid hb1
  have HW1 := Lib.hid hw1
  clear hw1 hb1 x0 x1 x2 lt
  simp only [vE] at *
  go_enter Tryz.func24, Tryz.ntmps24
  go_upto_region 1 with (fail)
  rw [HW1.out]
  clear HW1
  obtain ⟨y0, y1, y2⟩ := HA.out w1 _ (Below.refl _ _) (Nat.le_refl _)
  have l0 : w1.cell? ⟨w.heap.size, 0, none⟩ = some (.int .i64 lx) := cell_of_row _ _ 0 _ _ _ y0
  have l1 : w1.cell? ⟨w.heap.size, 1, none⟩ = some (.int .i64 ly) := cell_of_row _ _ 1 _ _ _ y0
  have u0 : w1.cell? ⟨w.heap.size + 1, 0, none⟩ = some (.int .i64 hx) := cell_of_row _ _ 0 _ _ _ y1
  have u1 : w1.cell? ⟨w.heap.size + 1, 1, none⟩ = some (.int .i64 hy) := cell_of_row _ _ 1 _ _ _ y1
  have r0 : w1.cell? ⟨w.heap.size + 1 + 1, 0, none⟩ = some (.int .i64 r) := cell_of_row _ _ 0 _ _ _ y2
  clear y0 y1 y2
  go_wp2_with fail
  refine (HBX.out _).mono ?_
  rintro e w2 ⟨hP, hb2⟩
  have HB2 := Lib.hid hb2
  clear hb2 HBX l0 l1 u0 u1 r0
  unfold BoxP at hP
  by_cases hch : chE (lx, ly) (hx, hy) r = 0
  · rw [if_pos hch] at hP
    rcases hP with ⟨D, ao, c, n, h1, h2, rfl, h3, h4⟩ | ⟨D, h1, h2, h3, rfl⟩
    · obtain ⟨k, rfl⟩ : ∃ k : Nat, r = k := ⟨r.toNat, by have := (ch_ok hch).1; omega⟩
      have h20 : n ≤ 20000 := by rw [h3]; exact Nat.le_trans (wsL_le _ _) h2
      have hnl : (srt (wsL k D)).length = n := by rw [srt_length, h3]; rfl
      have HAsk : Hid (∀ blk, (∀ g o s, ao = some ⟨g, o, s⟩ → g = blk) → w1.heap.size ≤ blk → AskU 61 #[.pointer (some ⟨w.heap.size + 1 + 1, 0, none⟩), .pointer (some ⟨w.heap.size, 0, none⟩), .pointer (some ⟨w.heap.size + 1, 0, none⟩)] (fun x => !cenB k (lx, ly) (hx, hy) x) w2 blk (srt (wsL k D))) := by
        intro blk hblk hge W x hW hxm
        rw [srt_mem] at hxm
        unfold wsL at hxm
        obtain ⟨z, hz, rfl⟩ := List.mem_map.1 hxm
        have hz2 := (List.mem_filter.1 hz).2
        have hbw : Below w1.heap.size w2 W := hW.below HB2.out.size fun q hq e => by omega
        obtain ⟨q0, q1, q2⟩ := HA.out W w1.heap.size (HB2.out.trans hbw) (Nat.le_refl _)
        exact ask_any k (lx, ly) (hx, hy) hz2 _ _ _ W (cell_of_row _ _ 0 _ _ _ q2) q0 q1 (Array.getElem?_eq_some_iff.1 q2).1
      obtain ⟨blk, hblk, hge⟩ : ∃ blk, (∀ g o s, ao = some ⟨g, o, s⟩ → g = blk) ∧ w1.heap.size ≤ blk := by
        cases ao with
        | none => exact ⟨w1.heap.size, fun g o s e => (by cases e), Nat.le_refl _⟩
        | some a =>
          obtain ⟨g, o, s⟩ := a
          exact ⟨g, fun g' o' s' e => by cases e; rfl, (own_lt h4 g o s rfl).1⟩
      have HDF := Lib.hid (cendelete_any _ _ ao n c _ w2 w1.heap.size blk hnl (by omega) HB2.out.size h4 (HAsk.out blk hblk hge) hblk)
      have hff : ((srt (wsL k D)).filter fun x => !(!cenB k (lx, ly) (hx, hy) x)) = (srt (wsL k D)).filter (cenB k (lx, ly) (hx, hy)) := List.filter_congr fun x _ => Bool.not_not _
      rw [hff] at HDF
      have HY : Hid (∀ w' m, m = ((srt (wsL k D)).filter (cenB k (lx, ly) (hx, hy))).length → w'.ownsRow w1.heap.size 35 1 (.slice ao m c) m (uV ((srt (wsL k D)).filter (cenB k (lx, ly) (hx, hy)))) → CenP w (lx, ly) (hx, hy) k (.returned (.tuple #[.slice ao m c, .int .i64 0])) w') := fun w' m hm ho => by
        unfold CenP
        rw [if_pos hch]
        exact .inl ⟨D, _, ao, c, m, h1, h2, rfl, rfl, hm, own_base ho HB.out.size⟩
      have HT : Hid (∀ g o s, ao = some ⟨g, o, s⟩ → w1.heap.size ≤ g) := fun g o s e => (own_lt h4 g o s e).1
      generalize (srt (wsL k D)).filter (cenB k (lx, ly) (hx, hy)) = F at *
      generalize (fun x => !cenB k (lx, ly) (hx, hy) x) = pp at *
      clear h1 h2 h3 h4 hch HAsk hff hnl hblk hge HA
      go_wp2_with fail
      refine HDF.out.mono ?_
      rintro e w3 ⟨rfl, ho, ht⟩
      go_wp2
      go_ret2
      refine ⟨HY.out w3 _ rfl ho, HB.out.trans ((HB2.out.trans (ht.below HB2.out.size fun q hq e => ?_)).mono HB.out.size)⟩
      have := HT.out q 0 none e
      omega
    · have HY : Hid (CenP w (lx, ly) (hx, hy) r (.returned (.tuple #[.slice none 0 0, .int .i64 7])) w2) := by
        unfold CenP
        rw [if_pos hch]
        exact .inr ⟨D, h1, h2, h3, rfl⟩
      clear h1 h2 h3 hch HA
      go_wp2
      go_ret2
      exact ⟨HY.out, HB.out.trans (HB2.out.mono HB.out.size)⟩
  · rw [if_neg hch] at hP
    subst hP
    have HY : Hid (CenP w (lx, ly) (hx, hy) r (.returned (.tuple #[.slice none 0 0, .int .i64 (chE (lx, ly) (hx, hy) r)])) w2) := by
      unfold CenP
      rw [if_neg hch]
      rfl
    have hb : (chE (lx, ly) (hx, hy) r == 0) = false := beq_eq_false_iff_ne.2 hch
    generalize chE (lx, ly) (hx, hy) r = er at *
    clear hch HA
    go_wp2
    go_ret2
    exact ⟨HY.out, HB.out.trans (HB2.out.mono HB.out.size)⟩
end Go.Proofs.YtdbfimdcaacjhaaGreat
/- Plain laws: a cell that touches a box of the world may be; how many cells touch a box. -/
namespace Go.Proofs.YtdbfimdcaacjhaaGreat.Wd
open Go.Proofs.YtdbfimdcaacjhaaGreat.Cv

/-- How far a corner may lie from the centre, along an axis. -/
def ddN : Nat → Int
  | 0 => 90 | 1 => 234 | 2 => 624 | 3 => 1665 | 4 => 4290 | 5 => 11622 | 6 => 30735 | 7 => 79335 | 8 => 215982 | 9 => 566100 | 10 => 1484505 | 11 => 4004988 | _ => 10403595
theorem dd_of {m : Nat} (hm : m ≤ 12) : (-ddN m ≤ (d0E m).1 ∧ (d0E m).1 ≤ ddN m ∧ -ddN m ≤ (d0E m).2 ∧ (d0E m).2 ≤ ddN m) ∧ (-ddN m ≤ (d1E m).1 ∧ (d1E m).1 ≤ ddN m ∧ -ddN m ≤ (d1E m).2 ∧ (d1E m).2 ≤ ddN m) ∧
    (-ddN m ≤ (d1E m).1 - (d0E m).1 ∧ (d1E m).1 - (d0E m).1 ≤ ddN m ∧ -ddN m ≤ (d1E m).2 - (d0E m).2 ∧ (d1E m).2 - (d0E m).2 ≤ ddN m) := by
  rcases upto12 hm with rfl | rfl | rfl | rfl | rfl | rfl | rfl | rfl | rfl | rfl | rfl | rfl | rfl <;> decide
theorem vert_at {m : Nat} (hm : m ≤ 12) (z : E2) {k : Nat} (hk : k < 6) : ((cenE m z).1 - ddN m ≤ (hexC m z k).1 ∧ (hexC m z k).1 ≤ (cenE m z).1 + ddN m) ∧ (cenE m z).2 - ddN m ≤ (hexC m z k).2 ∧ (hexC m z k).2 ≤ (cenE m z).2 + ddN m := by
  obtain ⟨h0, h1, h2, h3, h4, h5⟩ := hexC_eq m z
  obtain ⟨e0, e1, e2⟩ := dd_of hm
  rcases (show k = 0 ∨ k = 1 ∨ k = 2 ∨ k = 3 ∨ k = 4 ∨ k = 5 by omega) with rfl | rfl | rfl | rfl | rfl | rfl <;> simp only [h0, h1, h2, h3, h4, h5, addE, subE] <;> omega
/-- What touches a box has its centre near it. -/
theorem touch_near {m : Nat} (hm : m ≤ 12) {z lo hi : E2} (h : TouchP (hexC m z) lo hi) : (lo.1 - ddN m ≤ (cenE m z).1 ∧ (cenE m z).1 ≤ hi.1 + ddN m) ∧ lo.2 - ddN m ≤ (cenE m z).2 ∧ (cenE m z).2 ≤ hi.2 + ddN m := by
  obtain ⟨⟨⟨a, a1, a2⟩, b, b1, b2⟩, ⟨⟨c, c1, c2⟩, d, d1, d2⟩, -⟩ := h
  have ha := vert_at hm z a1
  have hb := vert_at hm z b1
  have hc := vert_at hm z c1
  have hd := vert_at hm z d1
  omega
theorem cen_parts (m : Nat) (z : E2) : (cenE m z).1 = 3 * (52 * (mulE (bE m) z).1 + 26 * (mulE (bE m) z).2) ∧ (cenE m z).2 = 3 * (45 * (mulE (bE m) z).2) := by
  unfold cenE midE spotE mulE
  generalize bE m = b
  simp only
  constructor <;> grind
theorem err_cen {m : Nat} {z : E2} {x y T : Int} (h1 : -T ≤ (cenE m z).1 - 3 * x) (h2 : (cenE m z).1 - 3 * x ≤ T) (h3 : -T ≤ (cenE m z).2 - 3 * y) (h4 : (cenE m z).2 - 3 * y ≤ T) {H : Int} (hH : 71 * T ≤ 3 * H) : Hex H (errE m z (ptE x y)) := by
  obtain ⟨c1, c2⟩ := cen_parts m z
  rw [c1] at h1 h2
  rw [c2] at h3 h4
  unfold Hex errE ptE
  generalize mulE (bE m) z = q at *
  simp only
  omega
/-- A cell whose centre is near a point of the world may be. -/
theorem near_may {r : Nat} (hr : r ≤ 12) {z : E2} {x y : Int} (hx : 0 ≤ x ∧ x < 1073741824) (hy : 0 ≤ y ∧ y < 1073741824)
    (h1 : -(ddN (12 - r) + 3) ≤ (cenE (12 - r) z).1 - 3 * x ∧ (cenE (12 - r) z).1 - 3 * x ≤ ddN (12 - r) + 3) (h2 : -(ddN (12 - r) + 3) ≤ (cenE (12 - r) z).2 - 3 * y ∧ (cenE (12 - r) z).2 - 3 * y ≤ ddN (12 - r) + 3) : okB r z = true := by
  refine ok_of_base hr ?_
  have h0 : Hex (tN (12 - r) 0) (errE (12 - r) z (ptE x y)) := err_cen h1.1 h1.2 h2.1 h2.2 (by
    rcases upto12 hr with rfl | rfl | rfl | rfl | rfl | rfl | rfl | rfl | rfl | rfl | rfl | rfl | rfl <;> decide)
  have h3 := err_ups (m := 12 - r) h0 (k := r) (by omega)
  rw [show 12 - r + r = 12 by omega] at h3
  refine base_in hx hy (h3.mono ?_)
  rcases upto12 hr with rfl | rfl | rfl | rfl | rfl | rfl | rfl | rfl | rfl | rfl | rfl | rfl | rfl <;> decide
theorem clamp_ex {c l u D : Int} (hlu : l ≤ u) (h1 : 3 * l - D ≤ c) (h2 : c ≤ 3 * u + D) (hD : 0 ≤ D) : ∃ x, l ≤ x ∧ x ≤ u ∧ -(D + 3) ≤ c - 3 * x ∧ c - 3 * x ≤ D + 3 := by
  by_cases a : c < 3 * l
  · exact ⟨l, by omega⟩
  · by_cases b : 3 * u < c
    · exact ⟨u, by omega⟩
    · exact ⟨c / 3, by omega⟩
theorem dd_pos (m : Nat) : 0 ≤ ddN m := by unfold ddN; split <;> decide
/-- WHAT TOUCHES A BOX OF THE WORLD MAY BE. -/
theorem touch_ok {r : Nat} (hr : r ≤ 12) {z lo hi : E2} (hlo : worldB lo.1 lo.2 = true) (hhi : worldB hi.1 hi.2 = true) (hx : lo.1 ≤ hi.1) (hy : lo.2 ≤ hi.2) (h : TouchP (hexC (12 - r) z) (triE lo) (triE hi)) : okB r z = true := by
  obtain ⟨h1, h2⟩ := touch_near (by omega) h
  rw [worldB_iff] at hlo hhi
  simp only [triE] at h1 h2
  obtain ⟨x, x1, x2, x3⟩ := clamp_ex hx h1.1 h1.2 (dd_pos _)
  obtain ⟨y, y1, y2, y3⟩ := clamp_ex hy h2.1 h2.2 (dd_pos _)
  exact near_may hr (x := x) (y := y) (by omega) (by omega) x3 y3

/-- Numbers below n, each once: no more than n. -/
theorem nodup_below : ∀ (n : Nat) (l : List Nat), l.Nodup → (∀ x ∈ l, x < n) → l.length ≤ n
  | 0, l, _, h => by
    cases l with
    | nil => simp
    | cons a l => exact absurd (h a (by simp)) (by omega)
  | n + 1, l, hn, h => by
    by_cases hm : n ∈ l
    · have h1 := List.length_erase_of_mem hm
      have h2 := nodup_below n (l.erase n) (hn.erase n) fun x hx => by
        have hx' := (List.Nodup.mem_erase_iff hn).1 hx
        have := h x hx'.2
        omega
      omega
    · have := nodup_below n l hn fun x hx => by
        have := h x hx
        have : x ≠ n := fun e => hm (e ▸ hx)
        omega
      omega
theorem nodup_map {α β : Type} {f : α → β} : ∀ {l : List α}, l.Nodup → (∀ a ∈ l, ∀ b ∈ l, f a = f b → a = b) → (l.map f).Nodup
  | [], _, _ => List.nodup_nil
  | a :: l, hn, h => by
    rw [List.nodup_cons] at hn
    rw [List.map_cons, List.nodup_cons]
    refine ⟨fun hm => ?_, nodup_map hn.2 fun x hx y hy => h x (by simp [hx]) y (by simp [hy])⟩
    obtain ⟨b, hb, e⟩ := List.mem_map.1 hm
    exact hn.1 (h a (by simp) b (by simp [hb]) e.symm ▸ hb)
/-- Numbers of the lattice within K of one: no more than (2 K + 1)^2. -/
theorem within_count {D : List E2} (hn : D.Nodup) (K : Nat) (z0 : E2) (h : ∀ z ∈ D, -(K : Int) ≤ z.1 - z0.1 ∧ z.1 - z0.1 ≤ K ∧ -(K : Int) ≤ z.2 - z0.2 ∧ z.2 - z0.2 ≤ K) : D.length ≤ (2 * K + 1) * (2 * K + 1) := by
  have h1 := nodup_map (f := fun z : E2 => (z.1 - z0.1 + K).toNat * (2 * K + 1) + (z.2 - z0.2 + K).toNat) hn (by
    intro a ha b hb e
    have pa := h a ha
    have pb := h b hb
    obtain ⟨x, hx⟩ : ∃ x, (a.1 - z0.1 + K).toNat = x := ⟨_, rfl⟩
    obtain ⟨y, hy⟩ : ∃ y, (b.1 - z0.1 + K).toNat = y := ⟨_, rfl⟩
    obtain ⟨u, hu⟩ : ∃ u, (a.2 - z0.2 + K).toNat = u := ⟨_, rfl⟩
    obtain ⟨v, hv⟩ : ∃ v, (b.2 - z0.2 + K).toNat = v := ⟨_, rfl⟩
    rw [hx, hy, hu, hv] at e
    have hu2 : u < 2 * K + 1 := by omega
    have hv2 : v < 2 * K + 1 := by omega
    have e1 : u = v := by
      have := congrArg (· % (2 * K + 1)) e
      simpa [Nat.add_mod, Nat.mul_mod_left, Nat.mod_eq_of_lt hu2, Nat.mod_eq_of_lt hv2, Nat.mul_add_mod_self_right, Nat.mul_add_mod_self_left] using this
    have e2 : x = y := by
      subst e1
      exact Nat.eq_of_mul_eq_mul_right (by omega) (Nat.add_right_cancel e)
    ext <;> omega)
  have h2 := nodup_below ((2 * K + 1) * (2 * K + 1)) _ h1 (by
    intro x hx
    obtain ⟨z, hz, rfl⟩ := List.mem_map.1 hx
    have p := h z hz
    have a : (z.1 - z0.1 + K).toNat ≤ 2 * K := by omega
    have b : (z.2 - z0.2 + K).toNat < 2 * K + 1 := by omega
    have := Nat.mul_le_mul_right (2 * K + 1) a
    have e : (2 * K + 1) * (2 * K + 1) = 2 * K * (2 * K + 1) + (2 * K + 1) := by rw [Nat.add_mul, Nat.one_mul]
    omega)
  rwa [List.length_map] at h2
/-- As great as the law's boxes are reckoned by. -/
def sizeN : Nat → Int
  | 0 => 52
  | k + 1 => sizeN k * 8 / 3
theorem size_tab : sizeN 0 = 52 ∧ sizeN 1 = 138 ∧ sizeN 2 = 368 ∧ sizeN 3 = 981 ∧ sizeN 4 = 2616 ∧ sizeN 5 = 6976 ∧ sizeN 6 = 18602 ∧ sizeN 7 = 49605 ∧ sizeN 8 = 132280 ∧ sizeN 9 = 352746 ∧ sizeN 10 = 940656 ∧ sizeN 11 = 2508416 ∧ sizeN 12 = 6689109 := by decide
/-- What touches a box of at most 28 sizes is near what touches it. -/
theorem touch_within {m : Nat} (hm : m ≤ 12) {z z0 lo hi : E2} (h : TouchP (hexC m z) lo hi) (h0 : TouchP (hexC m z0) lo hi) (hw : hi.1 - lo.1 ≤ 84 * sizeN m) (hh : hi.2 - lo.2 ≤ 84 * sizeN m) :
    -52 ≤ z.1 - z0.1 ∧ z.1 - z0.1 ≤ 52 ∧ -52 ≤ z.2 - z0.2 ∧ z.2 - z0.2 ≤ 52 := by
  obtain ⟨q0, q1, q2, q3, q4, q5, q6, q7, q8, q9, q10, q11, q12⟩ := bE_tab
  obtain ⟨s0, s1, s2, s3, s4, s5, s6, s7, s8, s9, s10, s11, s12⟩ := size_tab
  obtain ⟨a1, a2⟩ := touch_near hm h
  obtain ⟨b1, b2⟩ := touch_near hm h0
  obtain ⟨c1, c2⟩ := cen_parts m z
  obtain ⟨d1, d2⟩ := cen_parts m z0
  rw [c1] at a1
  rw [c2] at a2
  rw [d1] at b1
  rw [d2] at b2
  clear c1 c2 d1 d2 h h0
  obtain ⟨z1, z2⟩ := z
  obtain ⟨y1, y2⟩ := z0
  obtain ⟨lx, ly⟩ := lo
  obtain ⟨hx, hy⟩ := hi
  simp only at *
  have key : ∀ u v : Int, u = z1 - y1 → v = z2 - y2 → -52 ≤ u ∧ u ≤ 52 ∧ -52 ≤ v ∧ v ≤ 52 := by
    intro u v hu hv
    obtain rfl : z1 = y1 + u := by omega
    obtain rfl : z2 = y2 + v := by omega
    rcases upto12 hm with rfl | rfl | rfl | rfl | rfl | rfl | rfl | rfl | rfl | rfl | rfl | rfl | rfl <;>
      (simp only [mulE, q0, q1, q2, q3, q4, q5, q6, q7, q8, q9, q10, q11, q12, s0, s1, s2, s3, s4, s5, s6, s7, s8, s9, s10, s11, s12, ddN] at a1 a2 b1 b2 hw hh) <;> (clear q0 q1 q2 q3 q4 q5 q6 q7 q8 q9 q10 q11 q12 s0 s1 s2 s3 s4 s5 s6 s7 s8 s9 s10 s11 s12 hu hv) <;> omega
  have := key _ _ rfl rfl
  omega
/-- HOW MANY: fewer than 20,000 touch a box of at most 28 sizes. -/
theorem touch_few {m : Nat} (hm : m ≤ 12) {D : List E2} {lo hi : E2} (hn : D.Nodup) (h : ∀ z ∈ D, TouchP (hexC m z) lo hi) (hw : hi.1 - lo.1 ≤ 84 * sizeN m) (hh : hi.2 - lo.2 ≤ 84 * sizeN m) : D.length ≤ 11025 := by
  cases D with
  | nil => simp
  | cons z0 D => exact within_count hn 52 z0 fun z hz => touch_within hm (h z hz) (h z0 (by simp)) hw hh
end Go.Proofs.YtdbfimdcaacjhaaGreat.Wd
/- What Box and Centres tell, as lists that rise; which cells touch a point, and parts of a box. -/
namespace Go.Proofs.YtdbfimdcaacjhaaGreat
open Go.RowKit Go.Lib Wd Cv

/-- A word of a cell that touches a box. -/
def TouchW (R : Nat) (lo hi : E2) (x : Int) : Prop := ∃ z, okB R z = true ∧ TouchP (hexC (12 - R) z) (triE lo) (triE hi) ∧ x = (wordN R z : Nat)
/-- A word of a cell whose centre lies in a box. -/
def CenW (R : Nat) (lo hi : E2) (x : Int) : Prop := ∃ z, okB R z = true ∧ inB lo hi (atE (12 - R) z) = true ∧ x = (wordN R z : Nat)
def IsBox (R : Nat) (lo hi : E2) (L : List Int) : Prop := Up L ∧ (∀ x, x ∈ L ↔ TouchW R lo hi x) ∧ L.length ≤ 20000
def IsCen (R : Nat) (lo hi : E2) (L : List Int) : Prop := Up L ∧ (∀ x, x ∈ L ↔ CenW R lo hi x) ∧ L.length ≤ 20000
theorem up_of_srt {l : List Int} (h : l.Nodup) : Up (srt l) := by
  have hp : (srt l).Perm l := List.mergeSort_perm l _
  have hn : (srt l).Nodup := hp.nodup_iff.2 h
  have hs := srt_sorted l
  rw [List.nodup_iff_pairwise_ne] at hn
  exact (hs.and hn).imp fun ⟨h1, h2⟩ => by omega
theorem wsL_nodup (R : Nat) {D : List E2} (h : D.Nodup) : (wsL R D).Nodup := by
  unfold wsL
  refine nodup_map (h.filter _) fun a ha b hb e => ?_
  have oa : okB R a = true := by simpa using (List.mem_filter.1 ha).2
  have ob : okB R b = true := by simpa using (List.mem_filter.1 hb).2
  have e2 : wordN R a = wordN R b := by omega
  exact (word_inj oa ob e2).2
theorem wsL_mem {R : Nat} {D : List E2} {x : Int} : x ∈ wsL R D ↔ ∃ z, z ∈ D ∧ okB R z = true ∧ x = (wordN R z : Nat) := by
  unfold wsL
  rw [List.mem_map]
  constructor
  · rintro ⟨z, hz, rfl⟩
    obtain ⟨h1, h2⟩ := List.mem_filter.1 hz
    exact ⟨z, h1, by simpa using h2, rfl⟩
  · rintro ⟨z, h1, h2, rfl⟩
    exact ⟨z, List.mem_filter.2 ⟨h1, by simpa using h2⟩, rfl⟩
theorem isBox_of {R : Nat} {lo hi : E2} {D : List E2} (h : AllOf (12 - R) (triE lo) (triE hi) D) (hl : D.length ≤ 20000) : IsBox R lo hi (srt (wsL R D)) := by
  refine ⟨up_of_srt (wsL_nodup R h.1), fun x => ?_, by rw [srt_length]; exact Nat.le_trans (wsL_le R D) hl⟩
  rw [srt_mem, wsL_mem]
  unfold TouchW
  constructor
  · rintro ⟨z, h1, h2, h3⟩; exact ⟨z, h2, (h.2 z).1 h1, h3⟩
  · rintro ⟨z, h1, h2, h3⟩; exact ⟨z, (h.2 z).2 h2, h1, h3⟩
theorem cen_at (m : Nat) (z : E2) : cenE m z = triE (atE m z) := by
  unfold cenE midE atE spotE triE mulE
  generalize bE m = b
  ext <;> simp only <;> grind
theorem form_self (m : Nat) (z : E2) : fA m z (cenE m z).1 (cenE m z).2 = 0 ∧ fB m z (cenE m z).1 (cenE m z).2 = 0 := by
  unfold fA fB; simp
theorem inZ_self (m : Nat) (z : E2) : InZ m z ((cenE m z).1 : Int) ((cenE m z).2 : Int) := by
  have hp := aN_pos m
  rw [inZ_int, (form_self m z).1, (form_self m z).2]
  omega
/-- A point in a box that a cell has: it touches. -/
theorem touch_at {m : Nat} (hm : m ≤ 12) {z lo hi : E2} {x y : Int} (h1 : lo.1 ≤ x ∧ x ≤ hi.1) (h2 : lo.2 ≤ y ∧ y ≤ hi.2) (h : InZ m z ((3 * x : Int) : Rat) ((3 * y : Int) : Rat)) : TouchP (hexC m z) (triE lo) (triE hi) := by
  rw [touch_iff hm z (triE lo) (triE hi) (by simp only [triE]; omega) (by simp only [triE]; omega)]
  refine ⟨((3 * x : Int) : Rat), ((3 * y : Int) : Rat), ?_, ?_, ?_, ?_, h⟩ <;> simp only [triE] <;> rw [Rat.intCast_le_intCast] <;> omega
theorem cen_touch {m : Nat} (hm : m ≤ 12) {z lo hi : E2} (h : inB lo hi (atE m z) = true) : TouchP (hexC m z) (triE lo) (triE hi) := by
  have h1 := (inB_iff lo hi _).1 h
  have h2 := inZ_self m z
  rw [cen_at m z] at h2
  exact touch_at hm ⟨h1.1, h1.2.1⟩ ⟨h1.2.2.1, h1.2.2.2⟩ h2
theorem isCen_of {R : Nat} {lo hi : E2} {D : List E2} (h : AllOf (12 - R) (triE lo) (triE hi) D) (hl : D.length ≤ 20000) : IsCen R lo hi ((srt (wsL R D)).filter (cenB R lo hi)) := by
  have hb := isBox_of h hl
  refine ⟨filter_up hb.1 _, fun x => ?_, Nat.le_trans (List.length_filter_le _ _) hb.2.2⟩
  rw [List.mem_filter, hb.2.1]
  unfold TouchW CenW cenB
  constructor
  · rintro ⟨⟨z, h1, h2, rfl⟩, h3⟩
    rw [Int.toNat_natCast, (word_cell h1).2.2] at h3
    exact ⟨z, h1, h3, rfl⟩
  · rintro ⟨z, h1, h2, rfl⟩
    exact ⟨⟨z, h1, cen_touch (by omega) h2, rfl⟩, by rw [Int.toNat_natCast, (word_cell h1).2.2]; exact h2⟩
/-- A slice with a list of its own. -/
def ToldB (w : World) (P : List Int → Prop) (e : Ending) (w' : World) : Prop :=
  ∃ L ao c n, P L ∧ e = .returned (.tuple #[.slice ao n c, .int .i64 0]) ∧ n = L.length ∧ w'.ownsRow w.heap.size 35 1 (.slice ao n c) n (uV L) ∧ Below w.heap.size w w'
theorem few_of {R : Nat} (hR : R ≤ 12) {lo hi : E2} (hw : hi.1 - lo.1 ≤ 28 * sizeN (12 - R)) (hh : hi.2 - lo.2 ≤ 28 * sizeN (12 - R)) {D : List E2} (hn : D.Nodup) (h : ∀ z ∈ D, TouchP (hexC (12 - R) z) (triE lo) (triE hi)) : D.length ≤ 11025 :=
  touch_few (by omega) hn h (by simp only [triE]; omega) (by simp only [triE]; omega)
/-- Box, of a box of the world that is few sizes wide. -/
theorem box_few (lo hi : E2) {R : Nat} (hc : chE lo hi R = 0) (hw : hi.1 - lo.1 ≤ 28 * sizeN (12 - R)) (hh : hi.2 - lo.2 ≤ 28 * sizeN (12 - R)) (w : World) : Calls Tryz.prog 13 #[vE lo, vE hi, .int .i64 R] w (ToldB w (IsBox R lo hi)) := by
  have hR : R ≤ 12 := by have := (ch_ok hc).1; omega
  refine (box_any lo hi R w).mono ?_
  rintro e w' ⟨hP, hb⟩
  unfold BoxP at hP
  rw [if_pos hc, Int.toNat_natCast] at hP
  rcases hP with ⟨D, ao, c, n, h1, h2, rfl, h3, h4⟩ | ⟨D, h1, h2, h3, _⟩
  · exact ⟨_, ao, c, n, isBox_of h1 h2, rfl, by rw [srt_length]; exact h3, h4, hb⟩
  · have := few_of hR hw hh h1 h3
    omega
theorem cen_few (lo hi : E2) {R : Nat} (hc : chE lo hi R = 0) (hw : hi.1 - lo.1 ≤ 28 * sizeN (12 - R)) (hh : hi.2 - lo.2 ≤ 28 * sizeN (12 - R)) (w : World) : Calls Tryz.prog 24 #[vE lo, vE hi, .int .i64 R] w (ToldB w (IsCen R lo hi)) := by
  have hR : R ≤ 12 := by have := (ch_ok hc).1; omega
  refine (centres_any lo hi R w).mono ?_
  rintro e w' ⟨hP, hb⟩
  unfold CenP at hP
  rw [if_pos hc, Int.toNat_natCast] at hP
  rcases hP with ⟨D, L, ao, c, n, h1, h2, rfl, rfl, h3, h4⟩ | ⟨D, h1, h2, h3, _⟩
  · exact ⟨_, ao, c, n, isCen_of h1 h2, rfl, h3, h4, hb⟩
  · have := few_of hR hw hh h1 h3
    omega
theorem box_err (lo hi : E2) {r : Int} (hc : chE lo hi r ≠ 0) (w : World) : Calls Tryz.prog 13 #[vE lo, vE hi, .int .i64 r] w fun e w' => e = .returned (.tuple #[.slice none 0 0, .int .i64 (chE lo hi r)]) ∧ Below w.heap.size w w' := by
  refine (box_any lo hi r w).mono ?_
  rintro e w' ⟨hP, hb⟩
  unfold BoxP at hP
  rw [if_neg hc] at hP
  exact ⟨hP, hb⟩
theorem cen_err (lo hi : E2) {r : Int} (hc : chE lo hi r ≠ 0) (w : World) : Calls Tryz.prog 24 #[vE lo, vE hi, .int .i64 r] w fun e w' => e = .returned (.tuple #[.slice none 0 0, .int .i64 (chE lo hi r)]) ∧ Below w.heap.size w w' := by
  refine (centres_any lo hi r w).mono ?_
  rintro e w' ⟨hP, hb⟩
  unfold CenP at hP
  rw [if_neg hc] at hP
  exact ⟨hP, hb⟩
/-- Only the cell itself has its centre. -/
theorem own_centre {m : Nat} (hm : m ≤ 12) {z z' : E2} (h : InZ m z' ((cenE m z).1 : Int) ((cenE m z).2 : Int)) : z' = z := by
  rcases tie_next hm (inZ_self m z) h with h1 | ⟨k, hk, rfl⟩
  · exact h1
  · exfalso
    have hp := aN_pos m
    obtain ⟨e1, e2⟩ := form_by hm z (unitE k) (cenE m z).1 (cenE m z).2
    rw [(form_self m z).1] at e1
    rw [(form_self m z).2] at e2
    rw [inZ_int, e1, e2] at h
    generalize aN m = A at *
    rcases (show k = 0 ∨ k = 1 ∨ k = 2 ∨ k = 3 ∨ k = 4 ∨ k = 5 by omega) with rfl | rfl | rfl | rfl | rfl | rfl <;> simp only [unitE] at h <;> omega
theorem at_inj {m : Nat} (hm : m ≤ 12) {z z' : E2} (h : atE m z' = atE m z) : z' = z := by
  refine own_centre hm ?_
  have := inZ_self m z'
  rwa [cen_at m z', h, ← cen_at m z] at this
/-- What touches a point box has the point. -/
theorem touch_point {m : Nat} (hm : m ≤ 12) {z p : E2} (h : TouchP (hexC m z) (triE p) (triE p)) : InZ m z ((3 * p.1 : Int) : Rat) ((3 * p.2 : Int) : Rat) := by
  rw [touch_iff hm z (triE p) (triE p) (Int.le_refl _) (Int.le_refl _)] at h
  obtain ⟨X, Y, h1, h2, h3, h4, h5⟩ := h
  have e1 := Rat.le_antisymm h2 h1
  have e2 := Rat.le_antisymm h4 h3
  rw [e1, e2] at h5
  exact h5
theorem bxOk_iff (lo hi : E2) : bxOk lo hi = true ↔ (-2147483648 ≤ lo.1 ∧ hi.1 ≤ 2147483648 ∧ lo.1 ≤ hi.1) ∧ -2147483648 ≤ lo.2 ∧ hi.2 ≤ 2147483648 ∧ lo.2 ≤ hi.2 := by
  unfold bxOk axOk axG; simp; omega
theorem ct_iff (R : Nat) (z lo hi : E2) : ctB R z lo hi = true ↔ bxOk lo hi = true ∧ okB R z = true ∧ TouchP (hexC (12 - R) z) (triE lo) (triE hi) := by
  unfold ctB
  rw [Bool.and_eq_true, Bool.and_eq_true, Int.toNat_natCast, ← tt_iff]
  rfl
/-- A point's cell touches whatever box has the point. -/
theorem ct_near {R : Nat} (hR : R ≤ 12) {u v : Int} (hu : 0 ≤ u ∧ u < 1073741824) (hv : 0 ≤ v ∧ v < 1073741824) {lo hi : E2} (h1 : lo.1 ≤ u ∧ u ≤ hi.1) (h2 : lo.2 ≤ v ∧ v ≤ hi.2) (hb : bxOk lo hi = true) : ctB R (nearE u v R) lo hi = true :=
  (ct_iff R _ lo hi).2 ⟨hb, near_ok0 hu hv hR, touch_at (by omega) h1 h2 (inZ_near hR)⟩
end Go.Proofs.YtdbfimdcaacjhaaGreat
/- Contract of apiarylaw10.Box: a box of the world some cells wide. -/
namespace Go.Proofs.YtdbfimdcaacjhaaGreat
open Go.RowKit Go.Lib Wd Cv

/-- The box's greatest numbers, along one axis. -/
def farU (x wd s : Int) : Int := min (x + wd % 4294967296 % (8 * s)) 1073741823
def boxP (x y : Int) : E2 := (x % 1073741824, y % 1073741824)
def boxQ (x y wd h : Int) (R : Nat) : E2 := (farU (x % 1073741824) wd (sizeN (12 - R)), farU (y % 1073741824) h (sizeN (12 - R)))
theorem sizeN_pos {m : Nat} (hm : m ≤ 12) : 52 ≤ sizeN m ∧ sizeN m ≤ 6689109 := by
  rcases upto12 hm with rfl | rfl | rfl | rfl | rfl | rfl | rfl | rfl | rfl | rfl | rfl | rfl | rfl <;> decide
theorem farU_of {x wd s : Int} (hx : 0 ≤ x ∧ x < 1073741824) (hs : 52 ≤ s) : x ≤ farU x wd s ∧ farU x wd s < 1073741824 ∧ farU x wd s - x < 8 * s := by
  have h1 := Int.emod_nonneg (wd % 4294967296) (show 8 * s ≠ 0 by omega)
  have h2 := Int.emod_lt_of_pos (wd % 4294967296) (show 0 < 8 * s by omega)
  unfold farU
  omega
/-- What the laws know of such a box. -/
theorem lbox_of (x y wd h : Int) {R : Nat} (_hR : R ≤ 12) : worldB (boxP x y).1 (boxP x y).2 = true ∧ worldB (boxQ x y wd h R).1 (boxQ x y wd h R).2 = true ∧ (boxP x y).1 ≤ (boxQ x y wd h R).1 ∧ (boxP x y).2 ≤ (boxQ x y wd h R).2 ∧
    (boxQ x y wd h R).1 - (boxP x y).1 < 8 * sizeN (12 - R) ∧ (boxQ x y wd h R).2 - (boxP x y).2 < 8 * sizeN (12 - R) := by
  have s := (sizeN_pos (m := 12 - R) (by omega)).1
  have h1 := farU_of (x := x % 1073741824) (wd := wd) (by omega) s
  have h2 := farU_of (x := y % 1073741824) (wd := h) (by omega) s
  rw [worldB_iff, worldB_iff]
  unfold boxP boxQ
  simp only
  omega
set_option maxRecDepth 100000 in
set_option maxHeartbeats 4000000 in
theorem lbox_any (x y wd h : Int) (R : Nat) (hR : R ≤ 12) (w : World) : Calls Tryz.prog 21 #[.int .i64 x, .int .i64 y, .int .i64 wd, .int .i64 h, .int .i64 R] w fun e w' => e = .returned (.tuple #[vE (boxP x y), vE (boxQ x y wd h R)]) ∧ Below w.heap.size w w' := by
  have HPT := Lib.hid (fun w => point_in x y w)
  have e1 : bits BinOp.and IntKind.i64 wd 4294967295 = wd % 4294967296 := i64_and_mask wd 32 (by omega) 4294967295 rfl
  have e2 : bits BinOp.and IntKind.i64 h 4294967295 = h % 4294967296 := i64_and_mask h 32 (by omega) 4294967295 rfl
  have HE : Hid (boxP x y = (x % 1073741824, y % 1073741824) ∧ ∀ s, s = sizeN (12 - R) → boxQ x y wd h R = (min (x % 1073741824 + wd % 4294967296 % (8 * s)) 1073741823, min (y % 1073741824 + h % 4294967296 % (8 * s)) 1073741823)) := ⟨rfl, fun s hs => by subst hs; rfl⟩
  have hx : 0 ≤ x % 1073741824 ∧ x % 1073741824 < 1073741824 := by omega
  have hy : 0 ≤ y % 1073741824 ∧ y % 1073741824 < 1073741824 := by omega
  generalize boxP x y = bp at *
  generalize boxQ x y wd h R = bq at *
  generalize x % 1073741824 = u at *
  generalize y % 1073741824 = v at *
  have hwd : 0 ≤ wd % 4294967296 ∧ wd % 4294967296 < 4294967296 := by omega
  have hh : 0 ≤ h % 4294967296 ∧ h % 4294967296 < 4294967296 := by omega
  generalize wd % 4294967296 = W at *
  generalize h % 4294967296 = H at *
  simp only [vE] at *
  go_enter Tryz.func21, Tryz.ntmps21
  go_upto_region 1 with (fail)
  go_wp2_with fail
  refine (HPT.out _).mono ?_
  rintro e w1 ⟨rfl, hb1⟩
  have K0 : Below w.heap.size w w1 := (((Below.refl _ w).alloc (Nat.le_refl _) _).alloc (by simp) _).trans (hb1.mono (by simp only [World.size_alloc]; omega))
  have x0 : w1.heap[w.heap.size]? = some (.cells #[.int .i64 0, .int .i64 0] 30 (0, 0)) := by
    rw [hb1.block _ (by simp only [World.size_alloc]; omega), Below.heap_alloc _ _ _ (by simp)]; exact heap_new _ _ _ rfl
  have x1 : w1.heap[w.heap.size + 1]? = some (.cells #[.int .i64 0, .int .i64 0] 30 (0, 0)) := by
    rw [hb1.block _ (by simp only [World.size_alloc]; omega)]; exact heap_new _ _ _ (by simp)
  have HB := Lib.hid K0
  have HX := Lib.hid (And.intro x0 x1)
  clear hb1 K0 x0 x1 HPT
  go_upto_region 4 with (fail)
  go_loopw [12, 13] (fun sv iv wr => ∃ (i : Nat) (s : Int), R ≤ i ∧ i ≤ 12 ∧ sv = .int .i64 s ∧ iv = .int .i64 i ∧ wr = w1 ∧ Hid (s = sizeN (i - R))) (fun _ iv _ => 12 - (intOf iv).toNat)
  case atStart => exact ⟨R, 52, Nat.le_refl _, hR, rfl, rfl, rfl, by show _ = _; rw [Nat.sub_self]; rfl⟩
  case round =>
    obtain ⟨i, s, hRi, hi12, rfl, rfl, rfl, HS⟩ := hrel
    obtain ⟨s1, s2⟩ := sizeN_pos (m := i - R) (by omega)
    rw [← HS.out] at s1 s2
    by_cases hlt : i < 12
    · have hN : Hid (s * 8 / 3 = sizeN (i + 1 - R)) := by
        show _ = _
        rw [show i + 1 - R = (i - R) + 1 by omega, HS.out]; rfl
      have hi0 : (i : Int) < 12 := by omega
      clear HS
      go_wp2
      refine ⟨⟨i + 1, s * 8 / 3, by omega, by omega, rfl, by rw [show ((i + 1 : Nat) : Int) = (i : Int) + 1 by omega], trivial, hN.out⟩, by simp [intOf]; omega⟩
    · obtain rfl : i = 12 := by omega
      have HQ := Lib.hid (HE.out.2 s HS.out)
      have HP := Lib.hid HE.out.1
      have HE2 : Hid (∀ a b c d : Value, Below w.heap.size w ((((wr.setCell ⟨w.heap.size, 0, none⟩ a).setCell ⟨w.heap.size, 1, none⟩ b).setCell ⟨w.heap.size + 1, 0, none⟩ c).setCell ⟨w.heap.size + 1, 1, none⟩ d).drew) := fun a b c d =>
        (((((HB.out.setCell (p := ⟨w.heap.size, 0, none⟩) (Nat.le_refl _) a).setCell (p := ⟨w.heap.size, 1, none⟩) (Nat.le_refl _) b).setCell (p := ⟨w.heap.size + 1, 0, none⟩) (by simp) c).setCell (p := ⟨w.heap.size + 1, 1, none⟩) (by simp) d)).drew
      clear HS hRi HE
      have z1 : ((8 * s : Int) == 0) = false := by simp; omega
      have m1 := Int.emod_nonneg W (show 8 * s ≠ 0 by omega)
      have m2 := Int.emod_lt_of_pos W (show 0 < 8 * s by omega)
      have m3 := Int.emod_nonneg H (show 8 * s ≠ 0 by omega)
      have m4 := Int.emod_lt_of_pos H (show 0 < 8 * s by omega)
      have t1 : W.tmod (8 * s) = W % (8 * s) := Int.tmod_eq_emod_of_nonneg hwd.1
      have t2 : H.tmod (8 * s) = H % (8 * s) := Int.tmod_eq_emod_of_nonneg hh.1
      generalize W % (8 * s) = A at *
      generalize H % (8 * s) = B at *
      go_upto_region 7 with (fail)
      go_region
      have l0 : wr.cell? ⟨w.heap.size, 0, none⟩ = some (.int .i64 0) := cell_of_row _ _ 0 _ _ _ HX.out.1
      have l1 : wr.cell? ⟨w.heap.size, 1, none⟩ = some (.int .i64 0) := cell_of_row _ _ 1 _ _ _ HX.out.1
      have r0 : wr.cell? ⟨w.heap.size + 1, 0, none⟩ = some (.int .i64 0) := cell_of_row _ _ 0 _ _ _ HX.out.2
      have r1 : wr.cell? ⟨w.heap.size + 1, 1, none⟩ = some (.int .i64 0) := cell_of_row _ _ 1 _ _ _ HX.out.2
      have y0 : ∀ k, wr.frozen? ⟨w.heap.size, k, none⟩ = false := fun k => frozen_of_row _ _ _ _ _ HX.out.1
      have y1 : ∀ k, wr.frozen? ⟨w.heap.size + 1, k, none⟩ = false := fun k => frozen_of_row _ _ _ _ _ HX.out.2
      go_wp2
      refine bodyPost_ret (v := .tuple #[.agg #[.int .i64 u, .int .i64 v], .agg #[.int .i64 (min (u + A) 1073741823), .int .i64 (min (v + B) 1073741823)]]) (by simp [results, Tryz.results21, go_sem, *]) rfl ⟨by rw [HP.out, HQ.out], HE2.out _ _ _ _⟩
end Go.Proofs.YtdbfimdcaacjhaaGreat
/- What the walks of the laws share: cells of a block of two or three. -/
namespace Go.Proofs.YtdbfimdcaacjhaaGreat
open Go.RowKit Go.Lib Wd Cv
theorem cel3 {wx : World} {b : Nat} {t : TypeId} {u v s : Int} (h : wx.heap[b]? = some (.cells #[.int .i64 u, .int .i64 v, .int .i64 s] t (0, 0))) : wx.cell? ⟨b, 0, none⟩ = some (.int .i64 u) ∧ wx.cell? ⟨b, 1, none⟩ = some (.int .i64 v) ∧ wx.cell? ⟨b, 2, none⟩ = some (.int .i64 s) ∧ b < wx.heap.size := ⟨cell_of_row _ _ 0 _ _ _ h, cell_of_row _ _ 1 _ _ _ h, cell_of_row _ _ 2 _ _ _ h, (Array.getElem?_eq_some_iff.1 h).1⟩
theorem cel2 {wx : World} {b : Nat} {t : TypeId} {u v : Int} (h : wx.heap[b]? = some (.cells #[.int .i64 u, .int .i64 v] t (0, 0))) : wx.cell? ⟨b, 0, none⟩ = some (.int .i64 u) ∧ wx.cell? ⟨b, 1, none⟩ = some (.int .i64 v) ∧ b < wx.heap.size := ⟨cell_of_row _ _ 0 _ _ _ h, cell_of_row _ _ 1 _ _ _ h, (Array.getElem?_eq_some_iff.1 h).1⟩
/-- A block that stays. -/
def Stay (w : World) (b : Nat) (o : Obj) : Prop := ∀ wx, Below w.heap.size w wx → wx.heap[b]? = some o
theorem stay_new {w w' : World} {o : Obj} (h : Below (w.alloc o).heap.size (w.alloc o) w') : w'.heap[w.heap.size]? = some o := (h.block _ (by simp)).trans (heap_new _ _ _ rfl)
theorem stay_of {w : World} {b : Nat} {o : Obj} (h : w.heap[b]? = some o) : Stay w b o := fun _ hx => (hx.block b (Array.getElem?_eq_some_iff.1 h).1).trans h
theorem Stay.later {w w' : World} {b : Nat} {o : Obj} (h : Stay w b o) (hb : Below w.heap.size w w') : Stay w' b o := fun wx hx => h wx (hb.trans (hx.mono hb.size))
theorem Stay.at {w : World} {b : Nat} {o : Obj} (h : Stay w b o) : w.heap[b]? = some o := h w (Below.refl _ _)
/-- A small number of a size, as the laws take it. -/
theorem res_of (r : Int) : ∃ (s : Int) (R : Nat), r.tmod 13 = s ∧ -13 < s ∧ s < 13 ∧ (s + 13).tmod 13 = (R : Int) ∧ R ≤ 12 ∧ r % 13 = (R : Int) := by
  obtain ⟨⟨h1, h2⟩, h3⟩ := rem13 r
  exact ⟨_, (r % 13).toNat, rfl, h1, h2, by rw [h3]; omega, by omega, by omega⟩
end Go.Proofs.YtdbfimdcaacjhaaGreat
