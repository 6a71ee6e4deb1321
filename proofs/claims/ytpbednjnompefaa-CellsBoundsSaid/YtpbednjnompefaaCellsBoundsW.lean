/- The walk of the law CellsBounds. -/
import Derived.Test.YtpbednjnompefaaSlI
import Derived.OwnWalk
namespace Go.Proofs.Ytpbednjnompefaa.cellsBounds
open Go.RowKit Go.Lib Go.Sort

def evens (n : Nat) : List Int := (List.range n).map fun i : Nat => 2 * (i : Int)
theorem evens_length (n : Nat) : (evens n).length = n := by simp [evens]
theorem mem_evens {n : Nat} {x : Int} : x ∈ evens n ↔ ∃ i : Nat, i < n ∧ 2 * (i : Int) = x := by simp [evens]
theorem setF_nodup {l : List Int} (h : l.Nodup) : (setF l).length = l.length := by
  have h1 : (setF l).Nodup := (setF_up l).imp fun h => by omega
  refine List.Perm.length_eq (List.perm_iff_count.2 fun a => ?_)
  rw [h.count, h1.count]
  simp only [setF_mem]
theorem nodup_evens (n : Nat) : (evens n).Nodup := by
  unfold evens
  exact List.pairwise_map.2 (List.pairwise_lt_range.imp fun h => by omega)
def odd3 (more : Bool) : List Int := if more then [1, 3, 5] else []
theorem odd3_not {more : Bool} {x : Int} (h : x ∈ odd3 more) : x % 2 = 1 := by
  cases more
  · simp [odd3] at h
  · simp [odd3] at h
    omega
theorem even_even {n : Nat} {x : Int} (h : x ∈ evens n) : x % 2 = 0 := by
  obtain ⟨i, _, rfl⟩ := mem_evens.1 h
  omega
theorem nodup_both (n : Nat) (more : Bool) : (evens n ++ odd3 more).Nodup := by
  refine List.pairwise_append.2 ⟨nodup_evens n, ?_, fun x hx y hy => ?_⟩
  · cases more <;> simp [odd3]
  · have := even_even hx
    have := odd3_not hy
    omega
theorem odd3_up (more : Bool) : Up (odd3 more) := by cases more <;> simp [odd3, Up]
theorem both_length (n : Nat) (more : Bool) : (setF (evens n ++ odd3 more)).length = n + (odd3 more).length := by
  rw [setF_nodup (nodup_both n more), List.length_append, evens_length]
theorem odd3_length (more : Bool) : (odd3 more).length ≤ 3 := by cases more <;> simp [odd3]
theorem unionE_at (n : Nat) (more : Bool) : unionE (evens n) (odd3 more) = if 20000 < n + (odd3 more).length then 7 else 0 := by
  have := odd3_length more
  unfold unionE toldE
  rw [both_length, evens_length]
  by_cases h : 20000 < n
  · rw [if_pos (by omega), if_pos (by omega)]
  · rw [if_neg (by omega)]
theorem unionL_at (n : Nat) (more : Bool) (h : n + (odd3 more).length ≤ 20000) : (unionL (evens n) (odd3 more)).length = n + (odd3 more).length := by
  rw [unionL_small (by rw [evens_length]; exact h), both_length]
theorem sideE_ab (n : Nat) (more : Bool) : sideE (evens n) (odd3 more) = if 20000 < n then 7 else 0 := by
  have := odd3_length more
  unfold sideE
  rw [evens_length]
  by_cases h : 20000 < n
  · rw [if_pos (by omega), if_pos h]
  · rw [if_neg (by omega), if_neg h]
theorem sideE_ba (n : Nat) (more : Bool) : sideE (odd3 more) (evens n) = if 20000 < n then 7 else 0 := by
  have := odd3_length more
  unfold sideE
  rw [evens_length]
  by_cases h : 20000 < n
  · rw [if_pos (by omega), if_pos h]
  · rw [if_neg (by omega), if_neg h]
theorem meet_none (n : Nat) (more : Bool) : (sideL (fun x => hasF (setF (odd3 more)) x) (evens n) (odd3 more)).length = 0 := by
  unfold sideL
  split
  · rfl
  · rw [List.length_eq_zero_iff, List.filter_eq_nil_iff]
    intro x hx
    rw [setF_mem] at hx
    rw [hasF_iff, setF_mem]
    intro hy
    have := even_even hx
    have := odd3_not hy
    omega
theorem minus_all (n : Nat) (more : Bool) (h : n ≤ 20000) : (sideL (fun x => !hasF (setF (evens n)) x) (odd3 more) (evens n)).length = (odd3 more).length := by
  have := odd3_length more
  rw [sideL_small (by omega) (by rw [evens_length]; exact h), setF_up_eq (odd3_up more), List.filter_eq_self.2]
  intro x hx
  rw [Bool.not_eq_true', ← Bool.not_eq_true, hasF_iff, setF_mem]
  intro hy
  have := even_even hy
  have := odd3_not hx
  omega
theorem zeros_made (n : Nat) : (madeCells #[.int .u64 0] (n * 1)).toList = List.replicate n (.int .u64 0) := by
  refine List.ext_getElem? fun i => ?_
  unfold madeCells
  by_cases h : i < n
  · simp [h, Nat.mod_one]
  · simp [h]
/-- The row that the law fills, k of its words written. -/
def Fill (w : World) (g n k : Nat) : Prop := ∀ j, j < n → w.cell? ⟨g, j, none⟩ = some (.int .u64 (if j < k then 2 * (j : Int) else 0))
theorem Fill.step {w : World} {g n k : Nat} (h : Fill w g n k) : Fill (w.setCell ⟨g, k, none⟩ (.int .u64 (2 * (k : Int)))) g n (k + 1) := fun j hj => by
  by_cases e : j = k
  · subst e
    rw [World.cell?_setCell_same _ _ _ (h j hj), if_pos (by omega)]
  · rw [World.cell?_setCell_other _ _ _ _ (by simp), h j hj]
    by_cases h2 : j < k
    · rw [if_pos h2, if_pos (by omega)]
    · rw [if_neg h2, if_neg (by omega)]
theorem Fill.words {w : World} {g n : Nat} (h : Fill w g n n) (hg : g < w.heap.size) : WordsAt w w.heap.size (some ⟨g, 0, none⟩) (evens n) := fun _ => by
  refine ⟨g, 0, rfl, hg, fun i hi => ?_⟩
  rw [evens_length] at hi
  rw [Nat.zero_add, h i hi, if_pos hi]
  simp [evens, List.getD_eq_getElem?_getD, hi]

set_option maxRecDepth 100000 in
set_option maxHeartbeats 4000000 in
theorem core (a0 : Int) (more : Bool) (w : World) : Calls Try.prog 6 #[.int .i64 a0, .bool more] w fun e w' => e = .returned (.bool true) ∧ Below w.heap.size w w' := by
  have HAW := Lib.hid awake7_any
  obtain ⟨i0, hi, hz0, hz1, hz2⟩ := info_parts info_u
  obtain ⟨e, ee, he⟩ : ∃ e : Nat, bits BinOp.and IntKind.i64 a0 15 = (e : Int) ∧ e ≤ 15 := ⟨(a0 % 16).toNat, by rw [i64_and_mask a0 4 (by omega) 15 rfl]; omega, by omega⟩
  obtain ⟨N, hN⟩ : ∃ N : Nat, (e : Int) + 19990 = (N : Int) := ⟨e + 19990, by omega⟩
  have n1 : N ≤ 20005 := by omega
  have n2 : 19990 ≤ N := by omega
  go_enter Try.func6, Try.ntmps6
  go_upto_region 3 with (at_make; refine wpList_make_full _ rfl (.tmp 19) (.tmp 19) 22 rfl w.heap.size 23 i0 (.int .u64 0) 1 Try.underlying22 hi hz0 hz1 .i64 .i64 _ _ N rfl rfl (by omega) (by omega) (by rw [hz2]; omega) (by unfold maxLen; omega) (by omega) ?_; intro w1 hmk hgk)
  have hb1 := below_grown0 hgk
  have hg1 : w.heap.size < w1.heap.size := (hmk.lt w.heap.size rfl).2
  have hF0 : Hid (Fill w1 w.heap.size N 0) := fun j hj => by
    rw [hmk.cellAt j (by omega)]
    have e1 : (madeCells (Value.int .u64 0).cells (N * 1)).toList = List.replicate N (.int .u64 0) := zeros_made N
    rw [e1, List.getElem?_replicate, if_pos hj, if_neg (by omega)]
  have hz : Hid (∀ j, w1.frozen? ⟨w.heap.size, j, none⟩ = false) := fun j => by
    rcases hmk.2 with ⟨h0, _⟩ | ⟨g, cap, cur, h0, _, hh, _⟩
    · cases h0
    · cases h0
      simp [World.frozen?, hh]
  clear hmk hgk
  go_wp2
  go_loopw [23] (fun i wr => ∃ k : Nat, k ≤ N ∧ i = .int .i64 k ∧ Hid (Fill wr w.heap.size N k) ∧ Hid (∀ j, wr.frozen? ⟨w.heap.size, j, none⟩ = false) ∧ w.heap.size < wr.heap.size ∧ Below w.heap.size w wr) (fun i _ => N - (intOf i).toNat)
  case atStart => exact ⟨0, Nat.zero_le _, rfl, hF0, hz, hg1, hb1⟩
  case round =>
    obtain ⟨k, hk, rfl, HF, HZ, hgw, hnx⟩ := hrel
    by_cases hlt : k < N
    · have c0 := HF.out k hlt
      rw [if_neg (by omega)] at c0
      have f0 := HZ.out k
      have hm1 : IntKind.i64.wrap (2 * (k : Int)) = 2 * (k : Int) := IntWalk.i64_in _ (by omega)
      have hm2 : IntKind.u64.wrap (2 * (k : Int)) = 2 * (k : Int) := by rw [IntKind.wrap_u64]; omega
      go_wp2
      go_roundw
      case rel => exact ⟨k + 1, by omega, by go_num, HF.out.step, fun j => by rw [World.frozen?_setCell]; exact HZ.out j, by simpa using hgw, hnx.setCell (Nat.le_refl _) _⟩
      case measure => simp [intOf]; omega
    · obtain rfl : k = N := by omega
      have HW := Lib.hid (HF.out.words hgw)
      have hsz := hnx.size
      have HNX := Lib.hid hnx
      have EU := Lib.hid (unionE_at k more)
      have EL := Lib.hid (unionL_at k more)
      have EA := Lib.hid (sideE_ab k more)
      have EB := Lib.hid (sideE_ba k more)
      have EM := Lib.hid (meet_none k more)
      have EN := Lib.hid (minus_all k more)
      have HEV := Lib.hid (evens_length k)
      clear hnx HF HZ hF0 hz hb1 hlt
      cases more
      · have HE0 : Hid (Env wr [(some ⟨w.heap.size, 0, none⟩, k, k, 20010, evens k), (none, 0, 0, 3, odd3 false)]) :=
          ((Env.nil wr).cons (show EntOk wr none 0 0 3 (odd3 false) from ⟨fun h => by simp [odd3] at h, rfl, by omega, fun _ => ⟨rfl, rfl⟩⟩)).cons ⟨HW.out, HEV.out, by omega, fun h => by cases h⟩
        have HB0 : Hid (Below w.heap.size w wr) := HNX.out
        clear HNX HW HEV
        by_cases hbig : k ≤ 20000
        · have hbig' := hbig
          clear hbig
          have XU : Hid (unionE (evens k) (odd3 false) = 0) := by show _ = _; rw [EU.out]; simp [odd3]; omega
          have XA : Hid (sideE (evens k) (odd3 false) = 0) := by show _ = _; rw [EA.out]; simp; omega
          have XB : Hid (sideE (odd3 false) (evens k) = 0) := by show _ = _; rw [EB.out]; simp; omega
          have XL : Hid ((unionL (evens k) (odd3 false)).length = k + 0) := EL.out (by simp [odd3]; omega)
          have XK : Hid ((sideL (fun x => !hasF (setF (evens k)) x) (odd3 false) (evens k)).length = 0) := EN.out (by omega)
          have q1 : decide (20000 < (k : Int)) = false := by simp; omega
          clear EU EL EA EB EN
          go_wp2_with fail
          refine (union_err (a := evens k) (b := odd3 false) (y := 20010) (z := 3) HE0.out (by simp) (by simp) (by omega)).mono ?_
          rintro e1 w3 ⟨oU, nU, cU, rfl, hE, hb⟩
          have hlU := (hE.get (ao := oU) (n := nU) (c := cU) (z := 20010 + 3) (l := unionL (evens k) (odd3 false)) (by simp)).2.1
          rw [XL.out] at hlU
          subst hlU
          rw [XU.out]
          have HE1 := Lib.hid hE
          have HB1 := Lib.hid (below_later HB0.out HB0.out.size hb)
          clear hE hb HE0 HB0
          go_wp2_with fail
          refine (meet_err (a := evens k) (b := odd3 false) (y := 20010) (z := 3) HE1.out (by simp) (by simp) (by omega)).mono ?_
          rintro e2 w4 ⟨oM, nM, cM, rfl, hE, hb⟩
          have hlM := (hE.get (ao := oM) (n := nM) (c := cM) (z := 20010) (l := sideL (fun x => hasF (setF (odd3 false)) x) (evens k) (odd3 false)) (by simp)).2.1
          rw [EM.out] at hlM
          subst hlM
          rw [XA.out]
          have HE2 := Lib.hid hE
          have HB2 := Lib.hid (below_later HB1.out HB1.out.size hb)
          clear hE hb HE1 HB1
          go_wp2_with fail
          refine (minus_err (a := odd3 false) (b := evens k) (y := 3) (z := 20010) HE2.out (by simp) (by simp) (by omega)).mono ?_
          rintro e3 w5 ⟨oK, nK, cK, rfl, hE, hb⟩
          have hlK := (hE.get (ao := oK) (n := nK) (c := cK) (z := 3) (l := sideL (fun x => !hasF (setF (evens k)) x) (odd3 false) (evens k)) (by simp)).2.1
          rw [XK.out] at hlK
          subst hlK
          rw [XB.out]
          have HB3 := Lib.hid (below_later HB2.out HB2.out.size hb)
          clear hE hb HE2 HB2
          go_wp2_with fail
          refine (HAW.out _).mono ?_
          rintro e4 w6 ⟨rfl, hb⟩
          have hb4 := below_later HB3.out HB3.out.size hb
          clear hb
          go_wp2
          go_ret
          exact ⟨rfl, hb4⟩
        · have hbig' := hbig
          clear hbig
          have XU : Hid (unionE (evens k) (odd3 false) = 7) := by show _ = _; rw [EU.out]; simp [odd3]; omega
          have XA : Hid (sideE (evens k) (odd3 false) = 7) := by show _ = _; rw [EA.out]; simp; omega
          have XB : Hid (sideE (odd3 false) (evens k) = 7) := by show _ = _; rw [EB.out]; simp; omega
          have q1 : decide (20000 < (k : Int)) = true := by simp; omega
          clear EU EL EA EB EN
          go_wp2_with fail
          refine (union_err (a := evens k) (b := odd3 false) (y := 20010) (z := 3) HE0.out (by simp) (by simp) (by omega)).mono ?_
          rintro e1 w3 ⟨oU, nU, cU, rfl, hE, hb⟩
          have hlU := (hE.get (ao := oU) (n := nU) (c := cU) (z := 20010 + 3) (l := unionL (evens k) (odd3 false)) (by simp)).2.1
          clear hlU
          rw [XU.out]
          have HE1 := Lib.hid hE
          have HB1 := Lib.hid (below_later HB0.out HB0.out.size hb)
          clear hE hb HE0 HB0
          go_wp2_with fail
          refine (meet_err (a := evens k) (b := odd3 false) (y := 20010) (z := 3) HE1.out (by simp) (by simp) (by omega)).mono ?_
          rintro e2 w4 ⟨oM, nM, cM, rfl, hE, hb⟩
          have hlM := (hE.get (ao := oM) (n := nM) (c := cM) (z := 20010) (l := sideL (fun x => hasF (setF (odd3 false)) x) (evens k) (odd3 false)) (by simp)).2.1
          rw [EM.out] at hlM
          subst hlM
          rw [XA.out]
          have HE2 := Lib.hid hE
          have HB2 := Lib.hid (below_later HB1.out HB1.out.size hb)
          clear hE hb HE1 HB1
          go_wp2_with fail
          refine (minus_err (a := odd3 false) (b := evens k) (y := 3) (z := 20010) HE2.out (by simp) (by simp) (by omega)).mono ?_
          rintro e3 w5 ⟨oK, nK, cK, rfl, hE, hb⟩
          have hlK := (hE.get (ao := oK) (n := nK) (c := cK) (z := 3) (l := sideL (fun x => !hasF (setF (evens k)) x) (odd3 false) (evens k)) (by simp)).2.1
          clear hlK
          rw [XB.out]
          have HB3 := Lib.hid (below_later HB2.out HB2.out.size hb)
          clear hE hb HE2 HB2
          go_wp2_with fail
          refine (HAW.out _).mono ?_
          rintro e4 w6 ⟨rfl, hb⟩
          have hb4 := below_later HB3.out HB3.out.size hb
          clear hb
          go_wp2
          go_ret
          exact ⟨rfl, hb4⟩
      · have HB0 : Hid (Below w.heap.size w (wr.alloc (.cells #[.int .u64 1, .int .u64 3, .int .u64 5] 23))) := HNX.out.alloc hsz _
        have HE0 : Hid (Env (wr.alloc (.cells #[.int .u64 1, .int .u64 3, .int .u64 5] 23)) [(some ⟨w.heap.size, 0, none⟩, k, k, 20010, evens k), (some ⟨wr.heap.size, 0, none⟩, 3, 3, 3, odd3 true)]) :=
          ((Env.nil _).cons (show EntOk _ (some ⟨wr.heap.size, 0, none⟩) 3 3 3 (odd3 true) from ⟨(words_new wr [1, 3, 5] 23).wider (by simp), rfl, by omega, fun h => by cases h⟩)).cons
            ⟨(HW.out.below ((Below.refl wr.heap.size wr).alloc (Nat.le_refl _) _) (Nat.le_refl _)).wider (by simp), HEV.out, by omega, fun h => by cases h⟩
        clear HNX HW HEV
        by_cases hbig : k + 3 ≤ 20000
        · have hbig' := hbig
          clear hbig
          have XU : Hid (unionE (evens k) (odd3 true) = 0) := by show _ = _; rw [EU.out]; simp [odd3]; omega
          have XA : Hid (sideE (evens k) (odd3 true) = 0) := by show _ = _; rw [EA.out]; simp; omega
          have XB : Hid (sideE (odd3 true) (evens k) = 0) := by show _ = _; rw [EB.out]; simp; omega
          have XL : Hid ((unionL (evens k) (odd3 true)).length = k + 3) := EL.out (by simp [odd3]; omega)
          have XK : Hid ((sideL (fun x => !hasF (setF (evens k)) x) (odd3 true) (evens k)).length = 3) := EN.out (by omega)
          have q1 : decide (20000 < (k : Int)) = false := by simp; omega
          have q2 : decide (20000 < (k : Int) + 3) = false := by simp; omega
          have hw3 : IntKind.i64.wrap ((k : Int) + 3) = (k : Int) + 3 := IntWalk.i64_in _ (by omega)
          clear EU EL EA EB EN
          go_wp2_with fail
          refine (union_err (a := evens k) (b := odd3 true) (y := 20010) (z := 3) HE0.out (by simp) (by simp) (by omega)).mono ?_
          rintro e1 w3 ⟨oU, nU, cU, rfl, hE, hb⟩
          have hlU := (hE.get (ao := oU) (n := nU) (c := cU) (z := 20010 + 3) (l := unionL (evens k) (odd3 true)) (by simp)).2.1
          rw [XL.out] at hlU
          subst hlU
          rw [XU.out]
          have HE1 := Lib.hid hE
          have HB1 := Lib.hid (below_later HB0.out HB0.out.size hb)
          clear hE hb HE0 HB0
          go_wp2_with fail
          refine (meet_err (a := evens k) (b := odd3 true) (y := 20010) (z := 3) HE1.out (by simp) (by simp) (by omega)).mono ?_
          rintro e2 w4 ⟨oM, nM, cM, rfl, hE, hb⟩
          have hlM := (hE.get (ao := oM) (n := nM) (c := cM) (z := 20010) (l := sideL (fun x => hasF (setF (odd3 true)) x) (evens k) (odd3 true)) (by simp)).2.1
          rw [EM.out] at hlM
          subst hlM
          rw [XA.out]
          have HE2 := Lib.hid hE
          have HB2 := Lib.hid (below_later HB1.out HB1.out.size hb)
          clear hE hb HE1 HB1
          go_wp2_with fail
          refine (minus_err (a := odd3 true) (b := evens k) (y := 3) (z := 20010) HE2.out (by simp) (by simp) (by omega)).mono ?_
          rintro e3 w5 ⟨oK, nK, cK, rfl, hE, hb⟩
          have hlK := (hE.get (ao := oK) (n := nK) (c := cK) (z := 3) (l := sideL (fun x => !hasF (setF (evens k)) x) (odd3 true) (evens k)) (by simp)).2.1
          rw [XK.out] at hlK
          subst hlK
          rw [XB.out]
          have HB3 := Lib.hid (below_later HB2.out HB2.out.size hb)
          clear hE hb HE2 HB2
          go_wp2_with fail
          refine (HAW.out _).mono ?_
          rintro e4 w6 ⟨rfl, hb⟩
          have hb4 := below_later HB3.out HB3.out.size hb
          clear hb
          go_wp2
          go_ret
          exact ⟨rfl, hb4⟩
        · by_cases hmid : k ≤ 20000
          · have hbig' := And.intro hbig hmid
            clear hbig hmid
            have XU : Hid (unionE (evens k) (odd3 true) = 7) := by show _ = _; rw [EU.out]; simp [odd3]; omega
            have XA : Hid (sideE (evens k) (odd3 true) = 0) := by show _ = _; rw [EA.out]; simp; omega
            have XB : Hid (sideE (odd3 true) (evens k) = 0) := by show _ = _; rw [EB.out]; simp; omega
            have XK : Hid ((sideL (fun x => !hasF (setF (evens k)) x) (odd3 true) (evens k)).length = 3) := EN.out (by omega)
            have q1 : decide (20000 < (k : Int)) = false := by simp; omega
            have q2 : decide (20000 < (k : Int) + 3) = true := by simp; omega
            have hw3 : IntKind.i64.wrap ((k : Int) + 3) = (k : Int) + 3 := IntWalk.i64_in _ (by omega)
            clear EU EL EA EB EN
            go_wp2_with fail
            refine (union_err (a := evens k) (b := odd3 true) (y := 20010) (z := 3) HE0.out (by simp) (by simp) (by omega)).mono ?_
            rintro e1 w3 ⟨oU, nU, cU, rfl, hE, hb⟩
            have hlU := (hE.get (ao := oU) (n := nU) (c := cU) (z := 20010 + 3) (l := unionL (evens k) (odd3 true)) (by simp)).2.1
            clear hlU
            rw [XU.out]
            have HE1 := Lib.hid hE
            have HB1 := Lib.hid (below_later HB0.out HB0.out.size hb)
            clear hE hb HE0 HB0
            go_wp2_with fail
            refine (meet_err (a := evens k) (b := odd3 true) (y := 20010) (z := 3) HE1.out (by simp) (by simp) (by omega)).mono ?_
            rintro e2 w4 ⟨oM, nM, cM, rfl, hE, hb⟩
            have hlM := (hE.get (ao := oM) (n := nM) (c := cM) (z := 20010) (l := sideL (fun x => hasF (setF (odd3 true)) x) (evens k) (odd3 true)) (by simp)).2.1
            rw [EM.out] at hlM
            subst hlM
            rw [XA.out]
            have HE2 := Lib.hid hE
            have HB2 := Lib.hid (below_later HB1.out HB1.out.size hb)
            clear hE hb HE1 HB1
            go_wp2_with fail
            refine (minus_err (a := odd3 true) (b := evens k) (y := 3) (z := 20010) HE2.out (by simp) (by simp) (by omega)).mono ?_
            rintro e3 w5 ⟨oK, nK, cK, rfl, hE, hb⟩
            have hlK := (hE.get (ao := oK) (n := nK) (c := cK) (z := 3) (l := sideL (fun x => !hasF (setF (evens k)) x) (odd3 true) (evens k)) (by simp)).2.1
            rw [XK.out] at hlK
            subst hlK
            rw [XB.out]
            have HB3 := Lib.hid (below_later HB2.out HB2.out.size hb)
            clear hE hb HE2 HB2
            go_wp2_with fail
            refine (HAW.out _).mono ?_
            rintro e4 w6 ⟨rfl, hb⟩
            have hb4 := below_later HB3.out HB3.out.size hb
            clear hb
            go_wp2
            go_ret
            exact ⟨rfl, hb4⟩
          · have hbig' := hmid
            clear hbig hmid
            have XU : Hid (unionE (evens k) (odd3 true) = 7) := by show _ = _; rw [EU.out]; simp [odd3]; omega
            have XA : Hid (sideE (evens k) (odd3 true) = 7) := by show _ = _; rw [EA.out]; simp; omega
            have XB : Hid (sideE (odd3 true) (evens k) = 7) := by show _ = _; rw [EB.out]; simp; omega
            have q1 : decide (20000 < (k : Int)) = true := by simp; omega
            have q2 : decide (20000 < (k : Int) + 3) = true := by simp; omega
            have hw3 : IntKind.i64.wrap ((k : Int) + 3) = (k : Int) + 3 := IntWalk.i64_in _ (by omega)
            clear EU EL EA EB EN
            go_wp2_with fail
            refine (union_err (a := evens k) (b := odd3 true) (y := 20010) (z := 3) HE0.out (by simp) (by simp) (by omega)).mono ?_
            rintro e1 w3 ⟨oU, nU, cU, rfl, hE, hb⟩
            have hlU := (hE.get (ao := oU) (n := nU) (c := cU) (z := 20010 + 3) (l := unionL (evens k) (odd3 true)) (by simp)).2.1
            clear hlU
            rw [XU.out]
            have HE1 := Lib.hid hE
            have HB1 := Lib.hid (below_later HB0.out HB0.out.size hb)
            clear hE hb HE0 HB0
            go_wp2_with fail
            refine (meet_err (a := evens k) (b := odd3 true) (y := 20010) (z := 3) HE1.out (by simp) (by simp) (by omega)).mono ?_
            rintro e2 w4 ⟨oM, nM, cM, rfl, hE, hb⟩
            have hlM := (hE.get (ao := oM) (n := nM) (c := cM) (z := 20010) (l := sideL (fun x => hasF (setF (odd3 true)) x) (evens k) (odd3 true)) (by simp)).2.1
            rw [EM.out] at hlM
            subst hlM
            rw [XA.out]
            have HE2 := Lib.hid hE
            have HB2 := Lib.hid (below_later HB1.out HB1.out.size hb)
            clear hE hb HE1 HB1
            go_wp2_with fail
            refine (minus_err (a := odd3 true) (b := evens k) (y := 3) (z := 20010) HE2.out (by simp) (by simp) (by omega)).mono ?_
            rintro e3 w5 ⟨oK, nK, cK, rfl, hE, hb⟩
            have hlK := (hE.get (ao := oK) (n := nK) (c := cK) (z := 3) (l := sideL (fun x => !hasF (setF (evens k)) x) (odd3 true) (evens k)) (by simp)).2.1
            clear hlK
            rw [XB.out]
            have HB3 := Lib.hid (below_later HB2.out HB2.out.size hb)
            clear hE hb HE2 HB2
            go_wp2_with fail
            refine (HAW.out _).mono ?_
            rintro e4 w6 ⟨rfl, hb⟩
            have hb4 := below_later HB3.out HB3.out.size hb
            clear hb
            go_wp2
            go_ret
            exact ⟨rfl, hb4⟩

theorem walk {w : World} (a0 : Int) (_w0 : (Lit.int .i64 a0).wf = true) (a1 : Bool) : Calls Try.prog 6 #[.int .i64 a0, .bool a1] w fun e w' => e = .returned (.bool true) ∧ Below w.heap.size w w' := core a0 a1 w
end Go.Proofs.Ytpbednjnompefaa.cellsBounds
