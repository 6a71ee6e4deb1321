/- Joined: PlB, PdH, NfG, NfH, NfJ, NcQ, PkA, PkB, NwB, NfW, NwC, NwE, PlC, PlD, PlE, NwD: contracts and plain laws, each with its own heading below. -/
import Derived.Test.YtkjfdaleamonaaaGreatPackAI
import Derived.Test.YtkjfdaleamonaaaGreatPackAE
import Derived.Test.YtkjfdaleamonaaaGreatPackAF
import Derived.Test.YtkjfdaleamonaaaGreatPackAG
import Derived.Test.YtkjfdaleamonaaaGreatPackAH
/- Plain laws of packing: all of a cell comes to the cell; what is free. -/
namespace Go.Proofs.YtkjfdaleamonaaaGreat
open Go.RowKit Go.Lib Wd

theorem packN_nil : ∀ r, packN r [] = []
  | 0 => rfl
  | r + 1 => by show doneL [] ++ packN r (nextL []) = []; rw [next_nil, packN_nil r]; rfl
theorem upN_one (d : Nat) (y : E2) : upN d (upE y) = upN (d + 1) y := by
  have := upN_add d 1 y
  rw [show 1 + d = d + 1 by omega] at this
  exact this
/-- Nothing is full: nothing goes up. -/
theorem pack_none {r : Nat} {A : List Int} (h : ∀ v ∈ A, fullB A v = false) : packN (r + 1) A = A := by
  show doneL A ++ packN r (nextL A) = A
  have e1 : doneL A = A := List.filter_eq_self.2 fun v hv => by rw [h v hv]; rfl
  have e2 : nextL A = [] := by
    unfold nextL
    rw [List.filter_eq_nil_iff.2 fun v hv => by rw [h v hv]; simp]
    exact List.eq_nil_iff_forall_not_mem.2 fun x hx => by have := (setF_mem _ x).1 hx; cases this
  rw [e1, e2, packN_nil, List.append_nil]
theorem not_full {r : Nat} {A : List Int} (hs : Sized r A) (hl : A.length < 7) (hu : Up A) : ∀ v ∈ A, fullB A v = false := fun v hv => by
  rw [← Bool.not_eq_true]
  intro hf
  cases r with
  | zero =>
    obtain ⟨z, hz, rfl⟩ := hs v hv
    obtain ⟨a1, a2, -⟩ := word_cell hz
    unfold fullB parE at hf
    rw [Int.toNat_natCast, if_pos a1, if_pos a2] at hf
    simp at hf
  | succ r =>
    have hr : r + 1 ≤ 12 := sized_le hs (fun e => by rw [e] at hv; cases hv)
    obtain ⟨-, p, hp, -, hk⟩ := word_parts (hs v hv)
    have hall := (full_iff hr hp hk).1 hf
    have hsub : (kidsW r (wordN r p)).length ≤ A.length := by
      have e : kidsW r (wordN r p) = A.filter fun v => (kidsW r (wordN r p)).contains v := by
        refine (kids_up hr p).ext (filter_up hu _) fun x => ?_
        rw [List.mem_filter, List.contains_iff_mem]
        exact ⟨fun h => ⟨hall x h, h⟩, fun h => h.2⟩
      rw [e]
      exact List.length_filter_le _ _
    rw [kidsW_len] at hsub
    omega
theorem packN_one (r : Nat) {z : E2} (hz : okB r z = true) : packN r [(wordN r z : Int)] = [(wordN r z : Int)] := by
  cases r with
  | zero => rfl
  | succ r => exact pack_none (not_full (r := r + 1) (fun v hv => ⟨z, hz, List.mem_singleton.1 hv⟩) (by simp) (List.pairwise_singleton _ _))
/-- All of a cell comes to the cell. -/
theorem packN_ds : ∀ (d k : Nat) {z : E2}, k + d ≤ 12 → okB k z = true → packN (k + d) (dsN d k z) = [(wordN k z : Int)]
  | 0, k, z, _, hz => packN_one k hz
  | d + 1, k, z, hk, hz => by
    have hup := ds_up (d + 1) k z hk hz
    have hsz : Sized (k + d + 1) (dsN (d + 1) k z) := ds_sized hk hz
    have key : ∀ p, okB (k + d : Nat) p = true → (upN d p = z ↔ ∀ u ∈ kidsW (k + d) (wordN (k + d) p), u ∈ dsN (d + 1) k z) := fun p hp => by
      constructor
      · intro e u hu
        obtain ⟨i, hi, rfl⟩ := (kidsW_mem (by omega) u).1 hu
        refine (ds_mem (d + 1) k z hk hz _).2 ⟨downE p i, kid_ok hp (by omega) hi, ?_, rfl⟩
        rw [← upN_one, upE_down p hi, e]
      · intro hall
        have h0 := hall (wordN (k + d + 1) (downE p 0) : Int) ((kidsW_mem (by omega) _).2 ⟨0, by omega, rfl⟩)
        obtain ⟨y, hy, e, e2⟩ := (ds_mem (d + 1) k z hk hz _).1 h0
        have e3 : downE p 0 = y := (word_inj (r := k + d + 1) (s := k + (d + 1)) (kid_ok hp (by omega) (by omega)) hy (by omega)).2
        rw [← e3, ← upN_one, upE_down p (by omega)] at e
        exact e
    have hfull : ∀ v ∈ dsN (d + 1) k z, fullB (dsN (d + 1) k z) v = true := fun v hv => by
      obtain ⟨-, p, hp, -, hkw⟩ := word_parts (hsz v hv)
      refine (full_iff (by omega) hp hkw).2 ((key p hp).1 ?_)
      obtain ⟨y, hy, e, e2⟩ := (ds_mem (d + 1) k z hk hz v).1 hv
      obtain ⟨i, hi, e4⟩ := (kidsW_mem (by omega) v).1 hkw
      have e3 : downE p i = y := (word_inj (r := k + d + 1) (s := k + (d + 1)) (kid_ok hp (by omega) hi) hy (by omega)).2
      rw [← e3, ← upN_one, upE_down p hi] at e
      exact e
    have e1 : doneL (dsN (d + 1) k z) = [] := List.filter_eq_nil_iff.2 fun v hv => by rw [hfull v hv]; simp
    have e2 : nextL (dsN (d + 1) k z) = dsN d k z := by
      refine Up.ext (setF_up _) (ds_up d k z (by omega) hz) fun q => ?_
      rw [next_mem (r := k + d) (by omega) hsz, ds_mem d k z (by omega) hz]
      constructor
      · rintro ⟨p, hp, e, h⟩
        exact ⟨p, hp, (key p hp).2 h, e⟩
      · rintro ⟨p, hp, h, e⟩
        exact ⟨p, hp, e, (key p hp).1 h⟩
    show packN (k + d + 1) _ = _
    show doneL _ ++ packN (k + d) (nextL _) = _
    rw [e1, e2, List.nil_append]
    exact packN_ds d k (by omega) hz
theorem packF_ds {d k : Nat} {z : E2} (hk : k + d ≤ 12) (hz : okB k z = true) : packF (k + d) (dsN d k z) = [(wordN k z : Int)] := by
  unfold packF
  rw [setF_up_eq (ds_up d k z hk hz), packN_ds d k hk hz]
  exact setF_up_eq (List.pairwise_singleton _ _)
theorem free_sized {r : Nat} {l : List Int} (hs : Sized r l) (hn : l.Nodup) : freeB l = true := by
  unfold freeB
  rw [sized_all hs, decide_eq_true hn]
  simp only [Bool.true_and]
  rw [List.all_eq_true]
  intro v hv
  rw [List.all_eq_true]
  intro j hj
  obtain ⟨a, b, c, e⟩ := sized_word (hs v hv)
  rw [b] at hj
  have hj := List.mem_range.1 hj
  have : ancW v j ∉ l := fun hm => by
    have h1 : okB j (upN (r - j) (zW v.toNat)) = true := upN_ok _ (by rw [show j + (r - j) = r by omega]; exact e)
    have := sized_unlike (hs _ hm) (s := j) ⟨_, h1, by unfold ancW; rw [b]⟩
    omega
  simpa using this
theorem free_anc {l : List Int} {v : Int} {j : Nat} (hv : v ∈ l) (hj : j < rW v.toNat) (hm : ancW v j ∈ l) : freeB l = false := by
  unfold freeB
  have : (l.all fun v => (List.range (rW v.toNat)).all fun j => !l.contains (ancW v j)) = false := by
    rw [List.all_eq_false]
    refine ⟨_, hv, ?_⟩
    rw [Bool.not_eq_true, List.all_eq_false]
    exact ⟨j, List.mem_range.2 hj, by rw [List.contains_iff_mem.2 hm]; simp⟩
  rw [this]; simp
theorem free_twice {l : List Int} (h : ¬ l.Nodup) : freeB l = false := by
  unfold freeB
  rw [decide_eq_false h]; simp
/-- The children of a cell, as words. -/
theorem kids_ds {k : Nat} {z : E2} (hk : k + 1 ≤ 12) : kidsW k (wordN k z) = dsN 1 k z := by
  show _ = (List.range 7).flatMap (fun i => dsN 0 (k + 1) (downE z i))
  have e : ∀ i, dsN 0 (k + 1) (downE z i) = [(wordN (k + 1) (downE z i) : Int)] := fun _ => rfl
  simp only [e]
  unfold kidsW
  rw [show List.range 7 = [0, 1, 2, 3, 4, 5, 6] from rfl]
  have h := fun i (hi : i < 7) => word_kid (z := z) hk hi
  have h0 := h 0 (by omega)
  have h1 := h 1 (by omega)
  have h2 := h 2 (by omega)
  have h3 := h 3 (by omega)
  have h4 := h 4 (by omega)
  have h5 := h 5 (by omega)
  have h6 := h 6 (by omega)
  clear h
  generalize (8 : Nat) ^ (11 - k) = u at *
  simp only [List.map_cons, List.map_nil, List.flatMap_cons, List.flatMap_nil, List.append_nil, List.singleton_append, List.cons.injEq, and_true]
  omega
/-- A child lies within its cell. -/
theorem free_kid {k : Nat} {z : E2} (hk : k + 1 ≤ 12) (hz : okB k z = true) {l : List Int} (h1 : (wordN k z : Int) ∈ l) {v : Int} (hv : v ∈ l) (hkv : v ∈ kidsW k (wordN k z)) : freeB l = false := by
  obtain ⟨d, hd, rfl⟩ := (kidsW_mem hk v).1 hkv
  obtain ⟨a, b, c⟩ := word_cell (kid_ok hz hk hd)
  refine free_anc (j := k) hv (by rw [Int.toNat_natCast, b]; omega) ?_
  unfold ancW
  rw [Int.toNat_natCast, b, c, show k + 1 - k = 1 by omega]
  show ((wordN k (upE (downE z d)) : Nat) : Int) ∈ l
  rw [upE_down z hd]
  exact h1
end Go.Proofs.YtkjfdaleamonaaaGreat
/- The contract of pack.Spread: its walk. -/
namespace Go.Proofs.YtkjfdaleamonaaaGreat
open Go.RowKit Go.Lib Wd

set_option maxRecDepth 100000 in
set_option maxHeartbeats 16000000 in
theorem spread_any (ao : Option Addr) (c : Nat) (l : List Int) (r : Int) (w : World) (B : Nat) (h : WordsAt w B ao l) (hB : B ≤ w.heap.size) (hn : l.length ≤ 1000000) (h64 : In64 l) :
    Calls Tryz.prog 25 #[.slice ao l.length c, .int .i64 r] w (ToldS w (sprL l r) (sprE l r)) := by
  obtain ⟨i0, hi, hz0, hz1, hz2⟩ := info_parts info_u
  obtain ⟨i1, hj, hy0, hy1, hy2⟩ := info_parts info_c
  have HNIL : Hid (∀ err w', Below w.heap.size w w' → sprE l r = err → err ≠ 0 → ToldS w (sprL l r) (sprE l r) (.returned (.tuple #[.slice none 0 0, .int .i64 err])) w') := fun err w' hb he h0 => by
    have : sprL l r = [] := by unfold sprL; rw [if_neg (by rw [he]; exact h0)]
    rw [this, he]
    exact ⟨none, 0, rfl, fun _ => rfl, fun h => by simp at h, hb⟩
  have HALL := Lib.hid (fun wx hb => all_any ao c l wx B (h.below (C := w.heap.size) hb hB) (Nat.le_trans hB (Below.size hb)) hn h64)
  have hsz := psize_any ao c l r w B h hB hn h64
  obtain ⟨n, hnn⟩ : ∃ n, l.length = n := ⟨_, rfl⟩
  have HN := Lib.hid hnn
  rw [hnn] at hn hsz HALL ⊢
  clear h hnn h64
  by_cases hE : szE l r = 0
  · obtain ⟨R, rfl, hR, ha, hrs, hN⟩ := szE_zero hE
    rw [hE, hN] at hsz
    by_cases hbig : 20000 < sumS R l
    · have HF := Lib.hid (HNIL.out 7 · · (by unfold sprE; rw [if_pos hE, Int.toNat_natCast, if_pos hbig]) (by decide))
      generalize sumS R l = S at *
      have q1 : decide (20000 < (S : Int)) = true := decide_eq_true (by omega)
      have q1n : decide (20000 < S) = true := decide_eq_true hbig
      have HS := Lib.hid hsz
      clear hE ha hrs hN hbig hsz
      go_enter Tryz.func25, Tryz.ntmps25
      go_wp2_with fail
      refine HS.out.mono ?_
      rintro e w1 ⟨rfl, hb1⟩
      have HFF := Lib.hid (HF.out w1 hb1)
      clear hb1
      go_wp2
      go_ret2
      exact HFF.out
    · obtain ⟨k1, k2, k3⟩ := cel_ok ha hrs
      have hsE : sprE l R = 0 := by unfold sprE; rw [if_pos hE, Int.toNat_natCast, if_neg hbig]
      have hsL : sprL l R = setF (l.flatMap (dsV R)) := by unfold sprL; rw [if_pos hsE, Int.toNat_natCast]
      rw [hsE, hsL]
      obtain ⟨N0, hN0⟩ : ∃ N0, l.map celW = N0 := ⟨_, rfl⟩
      rw [hN0] at k1 k2 k3
      have HN0 := Lib.hid hN0
      have HSL := Lib.hid (totC_len R N0)
      rw [← k2] at hsz hbig
      generalize l.flatMap (dsV R) = T at *
      have HFIN : Hid (∀ (O : List Int), (∀ x, x ∈ O ↔ x ∈ T) → setF O = setF T) := fun O hO => (setF_up O).ext (setF_up T) fun x => by rw [setF_mem, setF_mem, hO]
      have HK := Lib.hid (And.intro k1 k3)
      have HAW := Lib.hid ha
      have HML : Hid (N0.length = n) := by show _ = _; rw [← hN0, List.length_map, HN.out]
      have HOF : Hid (∀ (k : Nat) (z : E2), okB k z = true → ∀ w, Calls Tryz.prog 51 #[vC k z] w fun e w' => e = .returned (.tuple #[.int .u64 (wordN k z : Nat), .int .i64 0]) ∧ Below w.heap.size w w') := fun k z hz w => by
        have h := of_any (k : Int) z w
        rw [(ofW_ok hz).1, (ofW_ok hz).2.1] at h
        exact h
      have HCK : Hid (∀ (k : Nat) (z : E2), okB k z = true → k < 12 → ∀ w, Calls Tryz.prog 52 #[vC k z] w (ToldC w (kidsL k z) 0)) := fun k z hz hk w => by
        have h := ckids_any (k : Int) z w
        rw [(kd_ok hz (by omega)).1, (kd_ok hz (by omega)).2] at h
        exact h
      obtain ⟨S, hS⟩ : ∃ S, totC R N0 = S := ⟨_, rfl⟩
      have HTS := Lib.hid hS
      rw [hS] at hsz hbig HSL
      have hS2 : S ≤ 20000 := by omega
      have q1 : decide (20000 < (S : Int)) = false := decide_eq_false (by omega)
      have q1n : decide (20000 < S) = false := decide_eq_false hbig
      have HSZ := Lib.hid hsz
      have hnS : n ≤ S := by have := HSL.out; rw [HML.out] at this; exact this
      clear hE ha hrs hN hbig hsz k1 k2 k3 hsE hsL hS hN0
      go_enter Tryz.func25, Tryz.ntmps25
      go_wp2_with fail
      refine HSZ.out.mono ?_
      rintro e w1 ⟨rfl, hb1⟩
      have HB1 := Lib.hid hb1
      clear hb1
      go_wp2_with fail
      refine (HALL.out _ HB1.out).mono ?_
      rintro e w2 ⟨hb2, h2⟩
      rcases h2 with ⟨-, oo, oc, rfl, ho⟩ | ⟨h2, -⟩
      · rw [HN.out, HN0.out] at ho
        rw [HN.out]
        have HB2 := Lib.hid (HB1.out.trans (hb2.mono HB1.out.size))
        have HO := Lib.hid (own_base ho HB1.out.size)
        clear hb2 ho HALL
        go_wp2
        go_loopg [8, 10] (cstC R N0) (fun q nv ov wr => ∃ (N : List Cl) (O : List Int) (nn on : Nat) (no oo : Option Addr) (nc oc : Nat), nv = .slice no nn nc ∧ ov = .slice oo on oc ∧ nn + on ≤ 20000 ∧ cstC R N ≤ q ∧ Hid (N.length = nn ∧ O.length = on ∧ (∀ c ∈ N, OkC R c) ∧ on + totC R N = S ∧ ∀ x, (x ∈ O ∨ ∃ c ∈ N, x ∈ dsC R c) ↔ x ∈ T) ∧ Hid (wr.ownsRow w.heap.size 32 3 (.slice no nn nc) nn (cV N) ∧ wr.ownsRow w.heap.size 25 1 (.slice oo on oc) on (uV O) ∧ Below w.heap.size w wr))
        case atStart => exact ⟨N0, [], n, 0, oo, none, oc, 0, rfl, rfl, by omega, Nat.le_refl _, ⟨HML.out, rfl, HK.out.1, by rw [HTS.out]; omega, fun x => by rw [← HK.out.2 x]; simp⟩, HO.out, World.ownsRow_nil _ _ _ _, HB2.out⟩
        case round =>
          obtain ⟨N, O, nn, on, no, oo, nc, oc, rfl, rfl, hsum, hq, HP, HI⟩ := hrel
          have hsz := HI.out.2.2.size
          by_cases hnn0 : nn = 0
          · subst hnn0
            obtain rfl : N = [] := List.eq_nil_of_length_eq_zero HP.out.1
            have hws := words_own HP.out.2.1.symm HI.out.2.1
            have hset := uset_any oo oc O wr wr.heap.size hws (by rw [HP.out.2.1]; omega)
            rw [HP.out.2.1] at hset
            have HSET := Lib.hid hset
            have HEQ : Hid (setF O = setF T) := HFIN.out O fun x => by rw [← HP.out.2.2.2.2 x]; simp
            rw [HEQ.out] at HSET
            have HBR := Lib.hid HI.out.2.2
            clear hws hset HI HP
            go_wp2_with fail
            refine HSET.out.mono ?_
            rintro e w3 ⟨so, sc, rfl, hz, hw3, hb3⟩
            have HF : Hid (ToldS w (setF T) 0 (.returned (.tuple #[.slice so (setF T).length sc, .int .i64 0])) w3) := ⟨so, sc, rfl, hz, hw3, HBR.out.trans (hb3.mono HBR.out.size)⟩
            clear hz hw3 hb3
            go_wp2
            go_ret2
            exact HF.out
          · obtain ⟨k, rfl⟩ : ∃ k, nn = k + 1 := ⟨nn - 1, by omega⟩
            obtain ⟨N', cc, hNe⟩ : ∃ N' cc, N = N' ++ [cc] := by
              have hne : N ≠ [] := fun e => by have := HP.out.1; rw [e] at this; simp at this
              exact ⟨N.dropLast, N.getLast hne, (List.dropLast_concat_getLast _).symm⟩
            subst hNe
            have hN'l : N'.length = k := by have := HP.out.1; simpa using this
            obtain ⟨j, z, rfl, hz, hjR⟩ := HP.out.2.2.1 cc (by simp)
            obtain ⟨gb, rfl, hgl, hcells⟩ : ∃ g, no = some ⟨g, 0, none⟩ ∧ g < wr.heap.size ∧ ∀ i u, (cV (N' ++ [((j : Int), z)]))[i]? = some u → wr.cell? ⟨g, i, none⟩ = some u := by
              obtain ⟨ao', c', e, -, hh⟩ := own_form HI.out.1
              cases e
              obtain ⟨g, e2, -, h3, h4⟩ := hh (by omega)
              exact ⟨g, e2, h3, h4⟩
            have hkc : k + 1 ≤ nc := by
              obtain ⟨ao', c', e, h1, -⟩ := own_form HI.out.1
              cases e
              exact h1
            have hg3 := cV_get (N' ++ [((j : Int), z)]) k (by rw [HP.out.1]; omega)
            have hcg : cg (N' ++ [((j : Int), z)]) k = ((j : Int), z) := by
              unfold cg
              rw [List.getD_eq_getElem?_getD, List.getElem?_append_right (by omega), hN'l, Nat.sub_self]; rfl
            rw [hcg] at hg3
            have c0 := hcells _ _ hg3.1
            have c1 := hcells _ _ hg3.2.1
            have c2 := hcells _ _ hg3.2.2
            simp only at c0 c1 c2
            have hown' := own_take HI.out.1 (Nat.le_succ k)
            rw [cV_take _ k (by rw [HP.out.1]; omega), List.take_append_of_le_length (by omega), List.take_of_length_le (by omega)] at hown'
            have htot := HP.out.2.2.2.1
            rw [totC_append] at htot
            rw [cstC_append] at hq
            have T1 : Hid (Tri (wr.alloc (.cells #[.int .i64 j, .int .i64 z.1, .int .i64 z.2] 32)) wr.heap.size j z) := heap_new _ _ _ rfl
            have hal : Below wr.heap.size wr (wr.alloc (.cells #[.int .i64 j, .int .i64 z.1, .int .i64 z.2] 32)) := (Below.refl _ _).alloc (Nat.le_refl _) _
            have HO2 : Hid ((wr.alloc (.cells #[.int .i64 j, .int .i64 z.1, .int .i64 z.2] 32)).ownsRow w.heap.size 32 3 (.slice (some ⟨gb, 0, none⟩) k nc) k (cV N') ∧ (wr.alloc (.cells #[.int .i64 j, .int .i64 z.1, .int .i64 z.2] 32)).ownsRow w.heap.size 25 1 (.slice oo on oc) on (uV O) ∧ Below w.heap.size w (wr.alloc (.cells #[.int .i64 j, .int .i64 z.1, .int .i64 z.2] 32))) := ⟨own_later hown' hal, own_later HI.out.2.1 hal, HI.out.2.2.trans (hal.mono hsz)⟩
            have HMEM : Hid (∀ x, (x ∈ O ∨ (∃ c ∈ N', x ∈ dsC R c) ∨ x ∈ dsC R ((j : Int), z)) ↔ x ∈ T) := fun x => by
              rw [← HP.out.2.2.2.2 x]
              simp only [List.mem_append, List.mem_singleton]
              constructor
              · rintro (h | ⟨c, h1, h2⟩ | h)
                · exact .inl h
                · exact .inr ⟨c, .inl h1, h2⟩
                · exact .inr ⟨_, .inr rfl, h⟩
              · rintro (h | ⟨c, h1 | rfl, h2⟩)
                · exact .inl h
                · exact .inr (.inl ⟨c, h1, h2⟩)
                · exact .inr (.inr h2)
            have HOK' : Hid (∀ c ∈ N', OkC R c) := fun c hc => HP.out.2.2.1 c (List.mem_append_left _ hc)
            have HN'L := Lib.hid hN'l
            have HOL := Lib.hid HP.out.2.1
            have hw7 : IntKind.i64.wrap ((k : Int) + 1 - 1) = (k : Int) := by rw [Int.add_sub_cancel]; exact wrap_in (by omega) (by omega)
            have hlt7 : (k : Int) < (k : Int) + 1 := by omega
            clear hg3 hcg hcells hown' hal HI HP hN'l
            have hgw : gb < wr.heap.size := hgl
            go_upto_region 11 with (fail)
            generalize hbk : wr.heap.size = bk at *
            clear hbk
            generalize wr.alloc (.cells #[.int .i64 j, .int .i64 z.1, .int .i64 z.2] 32) = w4 at *
            obtain ⟨t0, t1, t2, t3, t4, t5, t6⟩ := T1.out.cells
            have hcst : 1 ≤ cst (R - j) := by cases R - j <;> simp only [cst] <;> omega
            have htot2 : on + (totC R N' + 7 ^ (R - j)) = S := by simpa [totC] using htot
            have hq2 := Nat.le_trans (show cstC R N' + cst (R - j) ≤ _ by simp [cstC]) hq
            clear htot hq
            by_cases hjr : j = R
            · subst hjr
              have hlt := Nat.lt_of_lt_of_le (show cstC j N' < cstC j N' + cst (j - j) by omega) hq2
              have HTT : Hid (on + 1 + totC j N' = S) := by show _ = _; rw [Nat.sub_self, Nat.pow_zero] at htot2; omega
              have HMEM2 : Hid (∀ x, (x ∈ O ++ [(wordN j z : Int)] ∨ ∃ c ∈ N', x ∈ dsC j c) ↔ x ∈ T) := fun x => by
                have e : dsC j ((j : Int), z) = [(wordN j z : Int)] := by unfold dsC; rw [Int.toNat_natCast, Nat.sub_self]; rfl
                rw [← HMEM.out x, e]
                simp only [List.mem_append, List.mem_singleton]
                constructor
                · rintro ((h | h) | h)
                  · exact .inl h
                  · exact .inr (.inr h)
                  · exact .inr (.inl h)
                · rintro (h | h | h)
                  · exact .inl (.inl h)
                  · exact .inr h
                  · exact .inl (.inr h)
              have HO3 := Lib.hid (HOF.out j z hz)
              have hsum2 : k + (on + 1) ≤ 20000 := by omega
              have q5 : ((j : Int) == (j : Int)) = true := by simp
              generalize wordN j z = W at *
              clear hq2 htot2 HMEM hz hcst
              simp only [vC] at HO3
              go_wp2_with fail
              refine (HO3.out _).mono ?_
              rintro e w5 ⟨rfl, hb5⟩
              have hal : Below w5.heap.size w5 (w5.alloc (.cells #[.int .u64 W] 25)) := (Below.refl _ _).alloc (Nat.le_refl _) _
              have HON5 := Lib.hid (own_later HO2.out.1 (hb5.trans (hal.mono hb5.size)))
              have hown := own_later HO2.out.2.1 hb5
              have HB5 := Lib.hid ((HO2.out.2.2.trans (hb5.mono HO2.out.2.2.size)).alloc (HO2.out.2.2.trans (hb5.mono HO2.out.2.2.size)).size (.cells #[.int .u64 (W : Int)] 25))
              have hbs : w.heap.size ≤ (w5.alloc (.cells #[.int .u64 (W : Int)] 25)).heap.size := HB5.out.size
              clear hb5 hal t0 t1 t2 t3 t4 t5 t6 T1 HO2 HO3
              go_wp2_with (at_builtin; refine wpList_append_own_at _ rfl (.tmp 57) (.tmp 59) 22 rfl w.heap.size 25 i0 (.int .u64 0) 1 8 Tryz.underlying22 hi hz0 hz1 hz2 rfl (by decide) _ on (uV O) rfl (hown.alloc _) ⟨w5.heap.size, 0, none⟩ 1 1 [.int .u64 W] rfl rfl (cells_new _ _ _ _ rfl) (by simp [Value.oneCell']) (by unfold maxLen; omega) (by omega) hbs ?_; intro v8 w8 hown8 hg8 _ hat8)
              obtain ⟨oo8, oc8, rfl, -⟩ := own_form hown8
              have HN8 := Lib.hid (HON5.out.kept hg8 (own_apart2 HON5.out (hown.alloc (.cells #[.int .u64 (W : Int)] 25)) (by decide)))
              have HO8 : Hid (w8.ownsRow w.heap.size 25 1 (.slice oo8 (on + 1) oc8) (on + 1) (uV (O ++ [(W : Int)]))) := by rw [uV_snoc]; exact hown8
              have HB8 := Lib.hid (below_append HB5.out (hown.alloc (.cells #[.int .u64 (W : Int)] 25)) hbs hg8)
              have HL8 : Hid ((O ++ [(W : Int)]).length = on + 1) := by show _ = _; rw [List.length_append, HOL.out]; rfl
              clear hown hown8 hg8 hat8 hbs HON5 HB5
              go_roundg (cstC j N')
              case measure => exact hlt
              case rel => exact ⟨N', O ++ [(W : Int)], k, on + 1, _, oo8, nc, oc8, rfl, rfl, hsum2, Nat.le_refl _, ⟨HN'L.out, HL8.out, HOK'.out, HTT.out, HMEM2.out⟩, HN8.out, HO8.out, HB8.out⟩
            · have hjl : j < R := by omega
              obtain ⟨g1, g2⟩ := kids_tot hjl z
              have hlt := Nat.lt_of_lt_of_le (show cstC R (N' ++ kidsL j z) < cstC R N' + cst (R - j) by rw [cstC_append]; omega) hq2
              have HTT : Hid (on + totC R (N' ++ kidsL j z) = S) := by show _ = _; rw [totC_append, g1]; exact htot2
              have HMEM2 : Hid (∀ x, (x ∈ O ∨ ∃ c ∈ N' ++ kidsL j z, x ∈ dsC R c) ↔ x ∈ T) := fun x => by
                rw [← HMEM.out x, ← kids_mem hjl z x]
                simp only [List.mem_append]
                constructor
                · rintro (h | ⟨c, h1 | h1, h2⟩)
                  · exact .inl h
                  · exact .inr (.inl ⟨c, h1, h2⟩)
                  · exact .inr (.inr ⟨c, h1, h2⟩)
                · rintro (h | ⟨c, h1, h2⟩ | ⟨c, h1, h2⟩)
                  · exact .inl h
                  · exact .inr ⟨c, .inl h1, h2⟩
                  · exact .inr ⟨c, .inr h1, h2⟩
              have HOK2 : Hid (∀ c ∈ N' ++ kidsL j z, OkC R c) := fun c hc => (List.mem_append.1 hc).elim (HOK'.out c) (kids_okC hjl hR hz c)
              have HKL : Hid ((kidsL j z).length = 7) := by show _ = _; unfold kidsL; simp
              have hlen := totC_len R (N' ++ kidsL j z)
              have HL2 : Hid ((N' ++ kidsL j z).length = k + 7) := by show _ = _; rw [List.length_append, HN'L.out, HKL.out]
              have hsum2 : k + 7 + on ≤ 20000 := by have := HTT.out; rw [HL2.out] at hlen; omega
              have HC3 := Lib.hid (HCK.out j z hz (by omega))
              have q5 : ((j : Int) == (R : Int)) = false := by rw [beq_eq_false_iff_ne]; omega
              generalize kidsL j z = K at *
              clear hq2 htot2 HMEM hz hcst g1 g2 hlen hjr
              simp only [vC] at HC3
              go_wp2_with fail
              refine (HC3.out _).mono ?_
              rintro e w5 ⟨qo, qc, rfl, hqa, hb5⟩
              rw [HKL.out]
              obtain ⟨qb, qf, rfl, -, -⟩ := hqa (by rw [HKL.out]; omega)
              have hnews := cell_news hqa rfl
              have HNW := Lib.hid hnews
              have hown := own_later HO2.out.1 hb5
              have HOU5 := Lib.hid (own_later HO2.out.2.1 hb5)
              have HB5 := Lib.hid (HO2.out.2.2.trans (hb5.mono HO2.out.2.2.size))
              have hbs : w.heap.size ≤ w5.heap.size := HB5.out.size
              have HKV : Hid ((cV K).length = 7 * 3) := by show _ = _; rw [cV_length, HKL.out]
              clear hb5 hqa hnews t0 t1 t2 t3 t4 t5 t6 T1 HO2 HC3
              go_wp2_with (at_builtin; refine wpList_append_own_at _ rfl (.tmp 66) (.tmp 67) 35 rfl w.heap.size 32 i1 (.agg #[.int .i64 0, .int .i64 0, .int .i64 0]) 3 24 Tryz.underlying35 hj hy0 hy1 hy2 rfl (by decide) _ k (cV N') rfl hown ⟨qb, qf, none⟩ 7 qc (cV K) rfl HKV.out HNW.out (cV_cell K) (by unfold maxLen; omega) (by omega) hbs ?_; intro v8 w8 hown8 hg8 _ hat8)
              obtain ⟨no8, nc8, rfl, -⟩ := own_form hown8
              have HO8 := Lib.hid (HOU5.out.kept hg8 (own_apart2 HOU5.out hown (by decide)))
              have HN8 : Hid (w8.ownsRow w.heap.size 32 3 (.slice no8 (k + 7) nc8) (k + 7) (cV (N' ++ K))) := by rw [cV_append]; exact hown8
              have HB8 := Lib.hid (below_append HB5.out hown hbs hg8)
              clear hown hown8 hg8 hat8 hbs HOU5 HB5
              go_roundg (cstC R (N' ++ K))
              case measure => exact hlt
              case rel => exact ⟨N' ++ K, O, k + 7, on, no8, oo, nc8, oc, rfl, rfl, hsum2, Nat.le_refl _, ⟨HL2.out, HOL.out, HOK2.out, HTT.out, HMEM2.out⟩, HN8.out, HO8.out, HB8.out⟩
      · rw [HAW.out] at h2; cases h2
  · have HF := Lib.hid (HNIL.out (szE l r) · · (by unfold sprE; rw [if_neg hE]) hE)
    generalize szE l r = E at *
    generalize szN l r = S at *
    have q1 : (E != 0) = true := by simp [hE]
    have HS := Lib.hid hsz
    clear hE hsz
    go_enter Tryz.func25, Tryz.ntmps25
    go_wp2_with fail
    refine HS.out.mono ?_
    rintro e w1 ⟨rfl, hb1⟩
    have HFF := Lib.hid (HF.out w1 hb1)
    clear hb1
    go_wp2
    go_ret2
    exact HFF.out
end Go.Proofs.YtkjfdaleamonaaaGreat
/- Contracts of apiaryref1: Beta, Pow (of 7), Seven, conj, World; apiarylaw3.Point is left to NfH. -/
namespace Go.Proofs.YtkjfdaleamonaaaGreat
open Go.RowKit Go.Lib Wd

theorem bE_sm {k : Nat} (hk : k ≤ 12) : Sm 1048576 (bE k) := by
  obtain ⟨q0, q1, q2, q3, q4, q5, q6, q7, q8, q9, q10, q11, q12⟩ := bE_tab
  unfold Sm
  rcases upto12 hk with rfl | rfl | rfl | rfl | rfl | rfl | rfl | rfl | rfl | rfl | rfl | rfl | rfl <;> decide
theorem pow7_in {k : Nat} (hk : k ≤ 12) : 1 ≤ (7 : Int) ^ k ∧ (7 : Int) ^ k ≤ 13841287201 := by
  rcases upto12 hk with rfl | rfl | rfl | rfl | rfl | rfl | rfl | rfl | rfl | rfl | rfl | rfl | rfl <;> decide
set_option maxRecDepth 100000 in
set_option maxHeartbeats 4000000 in
theorem rbeta_in (n : Nat) (hn : n ≤ 12) (w : World) :
    Calls Tryz.prog 135 #[.int .i64 n] w fun e w' => e = .returned (.tuple #[vE (bE n), .bool true]) ∧ Below w.heap.size w w' := by
  have q1 : decide ((n : Int) < 0) = false := decide_eq_false (by omega)
  have q2 : decide (20 < (n : Int)) = false := decide_eq_false (by omega)
  go_enter Tryz.func135, Tryz.ntmps135
  go_wp2
  have T0 : Hid (Two2 ((w.alloc (.cells #[.int .i64 0, .int .i64 0] 30)).alloc (.cells #[.int .i64 1, .int .i64 0] 30)) w.heap.size (.int .i64 0) (.int .i64 0)) := Two2.of_row (t := 30) (by rw [Below.heap_alloc _ _ _ (by simp)]; exact heap_new _ _ _ rfl)
  have C0 : Hid (Two2 ((w.alloc (.cells #[.int .i64 0, .int .i64 0] 30)).alloc (.cells #[.int .i64 1, .int .i64 0] 30)) (w.heap.size + 1) (.int .i64 1) (.int .i64 0)) := Two2.of_row (t := 30) (heap_new _ _ _ (by simp))
  have HB0 : Hid (Below w.heap.size w ((w.alloc (.cells #[.int .i64 0, .int .i64 0] 30)).alloc (.cells #[.int .i64 1, .int .i64 0] 30))) := ((Below.refl _ _).alloc (Nat.le_refl _) _).alloc (by simp) _
  have k2 : ((w.alloc (.cells #[.int .i64 0, .int .i64 0] 30)).alloc (.cells #[.int .i64 1, .int .i64 0] 30)).heap.size = w.heap.size + 2 := by simp
  generalize (w.alloc (.cells #[.int .i64 0, .int .i64 0] 30)).alloc (.cells #[.int .i64 1, .int .i64 0] 30) = w2 at *
  clear q1 q2
  go_loopw [5] (fun i wr => ∃ k : Nat, k ≤ n ∧ i = .int .i64 k ∧ Hid (Two2 wr (w.heap.size + 1) (.int .i64 (bE k).1) (.int .i64 (bE k).2) ∧ Turn (fun q => q = w.heap.size + 1) w2 wr)) (fun i _ => n - (intOf i).toNat)
  case atStart => exact ⟨0, by omega, rfl, C0.out, Turn.refl _ _⟩
  case round =>
    obtain ⟨k, hk, rfl, HI⟩ := hrel
    have hTri := HI.out.1
    have hturn := HI.out.2
    have hsz := hturn.2.2.2.1
    have HT := Lib.hid (T0.out.turn hturn (by omega) (by omega))
    have HBR : Hid (Below w.heap.size w wr) := HB0.out.trans (hturn.below (by omega) fun q hq e => by omega)
    have HTU := Lib.hid hturn
    have HTR := Lib.hid hTri
    clear hTri hturn HI
    by_cases hkn : k < n
    · have q1 : decide ((k : Int) < (n : Int)) = true := decide_eq_true (by omega)
      have hb1 := bE_sm (show k ≤ 12 by omega)
      have HMU := Lib.hid (rmul_in (bE k) (2, 1) (hb1.mono (by decide)) (by unfold Sm; simp) (by unfold Sm at hb1; unfold Sm mulE; simp only; omega))
      have HDN : Hid (bE (k + 1) = mulE (bE k) (2, 1)) := rfl
      obtain ⟨x, hx⟩ : ∃ x, bE k = x := ⟨_, rfl⟩
      rw [hx] at HMU HTR HDN
      generalize mulE x (2, 1) = m at *
      simp only [vE] at HMU
      obtain ⟨⟨c0, c1⟩, c2, c3⟩ := HTR.out
      clear hb1 hx
      go_wp2_with fail
      refine (HMU.out _).mono ?_
      rintro e w5 ⟨rfl, hb5⟩
      have hz5 := hb5.size
      have h5 := HTR.out.later (by omega) hb5
      have HP := Lib.hid (h5.put (.int .i64 m.1) (.int .i64 m.2))
      have HFI : Hid (Two2 ((w5.setCell ⟨w.heap.size + 1, 0, none⟩ (.int .i64 m.1)).setCell ⟨w.heap.size + 1, 1, none⟩ (.int .i64 m.2)) (w.heap.size + 1) (.int .i64 (bE (k + 1)).1) (.int .i64 (bE (k + 1)).2) ∧ Turn (fun q => q = w.heap.size + 1) w2 ((w5.setCell ⟨w.heap.size + 1, 0, none⟩ (.int .i64 m.1)).setCell ⟨w.heap.size + 1, 1, none⟩ (.int .i64 m.2))) := ⟨by rw [HDN.out]; exact HP.out.1, (HTU.out.trans (Turn.of_below hb5) fun _ _ h => h).trans HP.out.2 fun _ _ h => h⟩
      obtain ⟨⟨e0, e1⟩, e2, e3⟩ := h5
      clear hb5 c0 c1 c2 c3 HTR HT HTU HMU HBR HP HDN
      go_wp2
      go_roundw
      case rel => exact ⟨k + 1, by omega, by go_num, HFI.out⟩
      case measure => simp [intOf]; omega
    · obtain rfl : k = n := by omega
      have q1 : decide ((k : Int) < (k : Int)) = false := decide_eq_false (by omega)
      obtain ⟨x, hx⟩ : ∃ x, bE k = x := ⟨_, rfl⟩
      rw [hx] at HTR
      obtain ⟨⟨c0, c1⟩, c2, c3⟩ := HTR.out
      obtain ⟨⟨t0, t1⟩, t2, t3⟩ := HT.out
      have HX := Lib.hid hx
      clear HTR HT hx
      go_wp2
      exact bodyPost_ret (v := .tuple #[.agg #[.int .i64 x.1, .int .i64 x.2], .bool true]) (by simp [results, Tryz.results135, go_sem, *]) rfl ⟨by rw [HX.out], (HBR.out.setCell (p := ⟨w.heap.size, 0, none⟩) (Nat.le_refl _) _).setCell (p := ⟨w.heap.size, 1, none⟩) (Nat.le_refl _) _⟩
set_option maxRecDepth 100000 in
set_option maxHeartbeats 4000000 in
theorem rpow_in (n : Nat) (hn : n ≤ 12) (w : World) :
    Calls Tryz.prog 65 #[.int .i64 7, .int .i64 n] w fun e w' => e = .returned (.tuple #[.int .i64 (7 ^ n), .bool true]) ∧ Below w.heap.size w w' := by
  have q1 : decide ((n : Int) < 0) = false := decide_eq_false (by omega)
  go_enter Tryz.func65, Tryz.ntmps65
  go_wp2
  clear q1
  go_loopw [6, 7] (fun x i wr => ∃ k : Nat, k ≤ n ∧ i = .int .i64 k ∧ x = .int .i64 (7 ^ k) ∧ Below w.heap.size w wr) (fun _ i _ => n - (intOf i).toNat)
  case atStart => exact ⟨0, by omega, rfl, rfl, Below.refl _ _⟩
  case round =>
    obtain ⟨k, hk, rfl, rfl, hbr⟩ := hrel
    have HBR := Lib.hid hbr
    clear hbr
    by_cases hkn : k < n
    · have q1 : decide ((k : Int) < (n : Int)) = true := decide_eq_true (by omega)
      obtain ⟨hp1, hp2⟩ := pow7_in (show k ≤ 12 by omega)
      obtain ⟨hp3, hp4⟩ := pow7_in (show k + 1 ≤ 12 by omega)
      have HDN : Hid ((7 : Int) ^ (k + 1) = 7 ^ k * 7) := Int.pow_succ _ _
      rw [HDN.out] at hp3 hp4
      have HTI := Lib.hid (times_x (7 ^ k) 7 (by omega) (by omega))
      have HSM := Lib.hid (small_x (7 ^ k * 7) (by omega))
      obtain ⟨x, hx⟩ : ∃ x, (7 : Int) ^ k = x := ⟨_, rfl⟩
      rw [hx] at hp1 hp3 hp4 HDN HTI HSM ⊢
      obtain ⟨y, hy⟩ : ∃ y, x * 7 = y := ⟨_, rfl⟩
      rw [hy] at hp3 hp4 HDN HTI HSM
      have q2 : (x == 0) = false := by simp; omega
      simp only [vU] at HTI HSM
      clear hx hy
      obtain ⟨b, hb⟩ : ∃ b, (x == 1) = b := ⟨_, rfl⟩
      cases b
      all_goals
        go_wp2_with fail
        refine (HTI.out _).mono ?_
        rintro e w5 ⟨rfl, hb5⟩
        have HB5 : Hid (Below w.heap.size w w5) := HBR.out.trans (hb5.mono HBR.out.size)
        clear hb5
        go_wp2_with fail
        refine (HSM.out _).mono ?_
        rintro e w6 ⟨rfl, hb6⟩
        have HB6 : Hid (Below w.heap.size w w6) := HB5.out.trans (hb6.mono HB5.out.size)
        clear hb6
        go_wp2
        go_roundw
        case rel => exact ⟨k + 1, by omega, by go_num, by rw [HDN.out], HB6.out⟩
        case measure => simp [intOf]; omega
    · obtain rfl : k = n := by omega
      have q1 : decide ((k : Int) < (k : Int)) = false := decide_eq_false (by omega)
      obtain ⟨x, hx⟩ : ∃ x, (7 : Int) ^ k = x := ⟨_, rfl⟩
      have HX := Lib.hid hx
      rw [hx]
      clear hx
      go_wp2
      exact bodyPost_ret (v := .tuple #[.int .i64 x, .bool true]) (by simp [results, Tryz.results65, go_sem, *]) rfl ⟨by rw [HX.out], HBR.out⟩
theorem rseven_in (n : Nat) (hn : n ≤ 12) (w : World) :
    Calls Tryz.prog 31 #[.int .i64 n] w fun e w' => e = .returned (.int .i64 (7 ^ n)) ∧ Below w.heap.size w w' := by
  have HP := Lib.hid (rpow_in n hn)
  generalize (7 : Int) ^ n = x at *
  go_enter Tryz.func31, Tryz.ntmps31
  go_wp2_with fail
  refine (HP.out _).mono ?_
  rintro e w1 ⟨rfl, hb1⟩
  go_wp2
  exact bodyPost_ret (v := .int .i64 x) (by simp [results, Tryz.results31, go_sem]) rfl ⟨rfl, hb1⟩
set_option maxHeartbeats 1000000 in
theorem rconj_in (n : Nat) (hn : n ≤ 12) (w : World) :
    Calls Tryz.prog 106 #[.int .i64 n] w fun e w' => e = .returned (vE (conjE (bE n))) ∧ Below w.heap.size w w' := by
  have HP := Lib.hid (rbeta_in n hn)
  have hs := bE_sm hn
  unfold conjE
  unfold Sm at hs
  simp only [vE] at *
  generalize bE n = x at *
  obtain ⟨hs1, hs2, hs3, hs4⟩ := hs
  go_enter Tryz.func106, Tryz.ntmps106
  go_wp2_with fail
  refine (HP.out _).mono ?_
  rintro e w1 ⟨rfl, hb1⟩
  have hz := hb1.size
  simp at hz
  have H2 : Two2 w1 w.heap.size (.int .i64 0) (.int .i64 0) := (Two2.of_row (t := 30) (heap_new _ _ _ rfl)).later (by simp) hb1
  have HQ : Hid (Below w.heap.size w w1) := ((Below.refl _ _).alloc (Nat.le_refl _) _).trans (hb1.mono (by simp))
  have hT : Two (w1.alloc (.cells #[.int .i64 x.1, .int .i64 x.2] 30)) w1.heap.size (.int .i64 x.1) (.int .i64 x.2) := Two.of_row (t := 30) (f := _) (heap_new _ _ _ rfl)
  have H2 := H2.alloc (by omega) (.cells #[.int .i64 x.1, .int .i64 x.2] 30)
  have HQ : Hid (Below w.heap.size w (w1.alloc (.cells #[.int .i64 x.1, .int .i64 x.2] 30))) := HQ.out.alloc (by omega) _
  have hs : w1.heap.size < (w1.alloc (.cells #[.int .i64 x.1, .int .i64 x.2] 30)).heap.size := by simp
  clear hb1
  go_upto_region 2 with (fail)
  generalize w1.alloc (.cells #[.int .i64 x.1, .int .i64 x.2] 30) = w2 at *
  obtain ⟨c0, c1⟩ := hT
  obtain ⟨⟨t0, t1⟩, t2, t3⟩ := H2
  go_wp2
  exact bodyPost_ret (v := .agg #[.int .i64 (x.1 + x.2), .int .i64 (-x.2)]) (by simp [results, Tryz.results106, go_sem, *]) rfl ⟨rfl, (HQ.out.setCell (p := ⟨w.heap.size, 0, none⟩) (Nat.le_refl _) _).setCell (p := ⟨w.heap.size, 1, none⟩) (Nat.le_refl _) _⟩
theorem rworld_in (x y : Int) (hx : 0 ≤ x ∧ x < 1073741824) (hy : 0 ≤ y ∧ y < 1073741824) (w : World) : Calls Tryz.prog 105 #[.int .i64 x, .int .i64 y] w fun e w' => e = .returned (.bool true) ∧ w' = w := by
  have q1 : decide (0 ≤ x) = true := decide_eq_true (by omega)
  have q2 : decide (x < 1073741824) = true := decide_eq_true (by omega)
  have q3 : decide (0 ≤ y) = true := decide_eq_true (by omega)
  have q4 : decide (y < 1073741824) = true := decide_eq_true (by omega)
  clear hx hy
  go_enter Tryz.func105, Tryz.ntmps105
  go_wp2
  go_ret
  exact ⟨rfl, rfl⟩
end Go.Proofs.YtkjfdaleamonaaaGreat
/- The contract of apiaryref1.Near. -/
namespace Go.Proofs.YtkjfdaleamonaaaGreat
open Go.RowKit Go.Lib Wd

theorem near_mul_sm {x y : Int} (hx : 0 ≤ x ∧ x < 1073741824) (hy : 0 ≤ y ∧ y < 1073741824) {m : Nat} (hm : m ≤ 12) : Sm 1152921504606846976 (mulE (ptE x y) (conjE (bE m))) := by
  obtain ⟨q0, q1, q2, q3, q4, q5, q6, q7, q8, q9, q10, q11, q12⟩ := bE_tab
  unfold Sm mulE ptE conjE
  rcases upto12 hm with rfl | rfl | rfl | rfl | rfl | rfl | rfl | rfl | rfl | rfl | rfl | rfl | rfl <;> simp only [q0, q1, q2, q3, q4, q5, q6, q7, q8, q9, q10, q11, q12] <;> omega
theorem conj_sm {m : Nat} (hm : m ≤ 12) : Sm 4194304 (conjE (bE m)) := by
  have := bE_sm hm
  unfold Sm at this
  unfold Sm conjE
  simp only
  omega
set_option maxRecDepth 100000 in
set_option maxHeartbeats 4000000 in
theorem rnear_in (x y : Int) (hx : 0 ≤ x ∧ x < 1073741824) (hy : 0 ≤ y ∧ y < 1073741824) (r : Nat) (hr : r ≤ 12) (w : World) :
    Calls Tryz.prog 77 #[.int .i64 x, .int .i64 y, .int .i64 r] w fun e w' => e = .returned (.tuple #[vE (nearE x y r), .bool true]) ∧ Below w.heap.size w w' := by
  have HWO := Lib.hid (rworld_in x y hx hy)
  have q1 : decide ((r : Int) < 0) = false := decide_eq_false (by omega)
  have q2 : decide (12 < (r : Int)) = false := decide_eq_false (by omega)
  have hm : (12 : Int) - (r : Int) = ((12 - r : Nat) : Int) := by omega
  have hm12 : 12 - r ≤ 12 := by omega
  have HN : Hid (nearE x y r = roundE (mulE (ptE x y) (conjE (bE (12 - r)))) (dN (12 - r))) := rfl
  have hms := near_mul_sm hx hy hm12
  have HCO := Lib.hid (rconj_in (12 - r) hm12)
  have HMU := Lib.hid (rmul_in (ptE x y) (conjE (bE (12 - r))) (by unfold Sm ptE; simp only; omega) ((conj_sm hm12).mono (by decide)) (hms.mono (by decide)))
  have HSE := Lib.hid (rseven_in (12 - r) hm12)
  obtain ⟨hp1, hp2⟩ := pow7_in hm12
  have HRO := Lib.hid (rround_in (mulE (ptE x y) (conjE (bE (12 - r)))) (dN (12 - r)) (by unfold dN; omega) (by unfold dN; omega) hms)
  rw [← HN.out] at HRO
  have hdn : dN (12 - r) = 2340 * 7 ^ (12 - r) := rfl
  rw [hdn] at HRO
  have hpt : ptE x y = (45 * x - 26 * y, 52 * y) := rfl
  clear HN hdn hms
  generalize (7 : Int) ^ (12 - r) = s at *
  generalize nearE x y r = z at *
  generalize 12 - r = m at *
  generalize mulE (ptE x y) (conjE (bE m)) = u at *
  generalize conjE (bE m) = c at *
  rw [hpt] at HMU
  simp only [vE] at *
  clear hpt
  obtain ⟨hx1, hx2⟩ := hx
  obtain ⟨hy1, hy2⟩ := hy
  go_enter Tryz.func77, Tryz.ntmps77
  go_wp2_with fail
  refine (HWO.out _).mono ?_
  rintro e w0 ⟨rfl, rfl⟩
  go_wp2_with fail
  refine (HCO.out _).mono ?_
  rintro e w1 ⟨rfl, hb1⟩
  have hz := hb1.size
  simp at hz
  have H1 : Hid (Two2 w1 w.heap.size (.int .i64 0) (.int .i64 0)) := (Two2.of_row (t := 30) (heap_new _ _ _ rfl)).later (by simp) hb1
  have HQ : Hid (Below w.heap.size w w1) := ((Below.refl _ _).alloc (Nat.le_refl _) _).trans (hb1.mono (by simp))
  clear hb1
  go_wp2_with fail
  refine (HMU.out _).mono ?_
  rintro e w2 ⟨rfl, hb2⟩
  have hz2 := hb2.size
  have H2 := H1.out.later (by omega) hb2
  have HQ2 : Hid (Below w.heap.size w w2) := HQ.out.trans (hb2.mono (by omega))
  have HT : Hid (Two (w2.alloc (.cells #[.int .i64 u.1, .int .i64 u.2] 30)) w2.heap.size (.int .i64 u.1) (.int .i64 u.2)) := Two.of_row (t := 30) (f := _) (heap_new _ _ _ rfl)
  have H2 := Lib.hid (H2.alloc (by omega) (.cells #[.int .i64 u.1, .int .i64 u.2] 30))
  have HQ3 : Hid (Below w.heap.size w (w2.alloc (.cells #[.int .i64 u.1, .int .i64 u.2] 30))) := HQ2.out.alloc (by omega) _
  have hs : w2.heap.size < (w2.alloc (.cells #[.int .i64 u.1, .int .i64 u.2] 30)).heap.size := by simp
  clear hb2 HQ HQ2 H1
  go_upto_region 4 with (fail)
  generalize w2.alloc (.cells #[.int .i64 u.1, .int .i64 u.2] 30) = w4 at *
  have HC : Hid (∀ wx, Below w4.heap.size w4 wx → Two wx w2.heap.size (.int .i64 u.1) (.int .i64 u.2) ∧ Two2 wx w.heap.size (.int .i64 0) (.int .i64 0)) := fun wx hx => ⟨HT.out.later (by omega) hx, H2.out.later (by omega) hx⟩
  clear HT H2
  refine wp_region_part 6 4 #[true, true, true, true, true, true, false, false, false, false] (fun w w' => Below w.heap.size w w') (fun qi_ qv_ _ => qv_ = ([.agg #[.int .i64 u.1, .int .i64 u.2], .int .i64 r, .int .i64 m, .int .i64 s, .int .i64 (2340 * s), .tuple #[.agg #[.int .i64 z.1, .int .i64 z.2], .bool true]] : List Value).getD qi_ undef) rfl rfl (by kernel_rfl) (by kernel_rfl) (by kernel_rfl) (fun _ => Below.refl _ _) (fun _ _ _ h1 h2 => below_later h1 h1.size h2) (fun _ _ _ _ _ _ h => h) ?_
  simp only [List.take_succ_cons, List.take_zero]
  refine inv_cons (fun wx hg hd => ?_) (fun v0 => ?_)
  · have hx := ((Below.refl w4.heap.size w4).drew).trans hg
    clear hd hg
    obtain ⟨⟨k1, k2⟩, _⟩ := HC.out _ hx
    go_wp2
    exact ⟨_, rfl, Below.refl _ _, rfl⟩
  (try simp only [List.nil_append, Act.put, List.setIfInBounds_toArray, List.set_cons_zero, List.set_cons_succ])
  refine inv_cons (fun wx hg hd => ?_) (fun v1 => ?_)
  · have hx := ((Below.refl w4.heap.size w4).drew).trans hg
    clear hd hg
    go_wp2
    exact ⟨_, rfl, Below.refl _ _, rfl⟩
  (try simp only [List.cons_append, List.nil_append, Act.put, List.setIfInBounds_toArray, List.set_cons_zero, List.set_cons_succ])
  refine inv_cons (fun wx hg hd => ?_) (fun v2 => ?_)
  · have hx := ((Below.refl w4.heap.size w4).drew).trans hg
    (try (have ee : v1 = (.int .i64 r : Value) := hd 1 (by simp) (by decide); subst ee))
    clear hd hg
    go_wp2
    exact ⟨_, rfl, Below.refl _ _, rfl⟩
  (try simp only [List.cons_append, List.nil_append, Act.put, List.setIfInBounds_toArray, List.set_cons_zero, List.set_cons_succ])
  refine inv_cons (fun wx hg hd => ?_) (fun v3 => ?_)
  · have hx := ((Below.refl w4.heap.size w4).drew).trans hg
    (try (have ee : v2 = (.int .i64 m : Value) := hd 2 (by simp) (by decide); subst ee))
    clear hd hg
    go_wp2_with fail
    refine (HSE.out _).mono ?_
    rintro e w' ⟨rfl, hb⟩
    go_wp2
    exact ⟨_, rfl, hb, rfl⟩
  (try simp only [List.cons_append, List.nil_append, Act.put, List.setIfInBounds_toArray, List.set_cons_zero, List.set_cons_succ])
  refine inv_cons (fun wx hg hd => ?_) (fun v4 => ?_)
  · have hx := ((Below.refl w4.heap.size w4).drew).trans hg
    (try (have ee : v3 = (.int .i64 s : Value) := hd 3 (by simp) (by decide); subst ee))
    clear hd hg
    go_wp2
    exact ⟨_, rfl, Below.refl _ _, rfl⟩
  (try simp only [List.cons_append, List.nil_append, Act.put, List.setIfInBounds_toArray, List.set_cons_zero, List.set_cons_succ])
  refine inv_cons (fun wx hg hd => ?_) (fun v5 => ?_)
  · have hx := ((Below.refl w4.heap.size w4).drew).trans hg
    (try (have ee : v0 = (.agg #[.int .i64 u.1, .int .i64 u.2] : Value) := hd 0 (by simp) (by decide); subst ee))
    (try (have ee : v4 = (.int .i64 (2340 * s) : Value) := hd 4 (by simp) (by decide); subst ee))
    clear hd hg
    go_wp2_with fail
    refine (HRO.out _).mono ?_
    rintro e w' ⟨rfl, hb⟩
    go_wp2
    exact ⟨_, rfl, hb, rfl⟩
  (try simp only [List.cons_append, List.nil_append, Act.put, List.setIfInBounds_toArray, List.set_cons_zero, List.set_cons_succ])
  refine inv_done (fun wx hg hd => ?_)
  have hx := ((Below.refl w4.heap.size w4).drew).trans hg
  (have ee : v0 = (.agg #[.int .i64 u.1, .int .i64 u.2] : Value) := hd 0 (by simp); subst ee)
  (have ee : v1 = (.int .i64 r : Value) := hd 1 (by simp); subst ee)
  (have ee : v2 = (.int .i64 m : Value) := hd 2 (by simp); subst ee)
  (have ee : v3 = (.int .i64 s : Value) := hd 3 (by simp); subst ee)
  (have ee : v4 = (.int .i64 (2340 * s) : Value) := hd 4 (by simp); subst ee)
  (have ee : v5 = (.tuple #[.agg #[.int .i64 z.1, .int .i64 z.2], .bool true] : Value) := hd 5 (by simp); subst ee)
  clear hd hg
  have HF : Hid (Below w.heap.size w wx) := HQ3.out.trans (hx.mono HQ3.out.size)
  obtain ⟨-, ⟨c0, c1⟩, f0, f1⟩ := HC.out _ hx
  have hzx := hx.size
  clear hx HC
  refine wpAny_take (i := 6) (v := .agg #[.int .i64 z.1, .int .i64 z.2]) rfl (by kernel_rfl) (by kernel_rfl) (by kernel_rfl) (fun _ _ _ h => h) (Or.inl ⟨by rfl, ?_⟩) ?_
  · intro w
    go_simp
  (try simp only [Act.put, List.setIfInBounds_toArray, List.set_cons_zero, List.set_cons_succ])
  refine wpAny_take (i := 7) (v := .bool true) rfl (by kernel_rfl) (by kernel_rfl) (by kernel_rfl) (fun _ _ _ h => h) (Or.inl ⟨by rfl, ?_⟩) ?_
  · intro w
    go_simp
  (try simp only [Act.put, List.setIfInBounds_toArray, List.set_cons_zero, List.set_cons_succ])
  refine wpAny_ready (rs := [8]) (by kernel_rfl) (by simp) ?_
  refine AllReady.cons rfl (fun K hK => ?_) AllReady.nil
  go_simp
  refine hK _ _ ?_
  clear hK K
  refine wpAny_ready (rs := [9]) (by kernel_rfl) (by simp) ?_
  refine AllReady.cons rfl (fun K hK => ?_) AllReady.nil
  go_simp
  refine hK _ _ ?_
  clear hK K
  refine wpAny_done (by kernel_rfl) ?_ _
  refine only_done ?_
  go_wp2
  exact bodyPost_ret (v := .tuple #[.agg #[.int .i64 z.1, .int .i64 z.2], .bool true]) (by simp [results, Tryz.results77, go_sem, *]) rfl ⟨rfl, (HF.out.setCell (p := ⟨w.heap.size, 0, none⟩) (Nat.le_refl _) _).setCell (p := ⟨w.heap.size, 1, none⟩) (Nat.le_refl _) _⟩
end Go.Proofs.YtkjfdaleamonaaaGreat
/- Contracts of apiarylaw3.Point, apiarylaw4.Some and apiarylaw5.Word at even y: the word of a point's cell. -/
namespace Go.Proofs.YtkjfdaleamonaaaGreat
open Go.RowKit Go.Lib Wd

theorem point_in (x y : Int) (w : World) : Calls Tryz.prog 76 #[.int .i64 x, .int .i64 y] w fun e w' => e = .returned (.tuple #[.int .i64 (x % 1073741824), .int .i64 (y % 1073741824)]) ∧ Below w.heap.size w w' := by
  have e1 : bits BinOp.and IntKind.i64 x 1073741823 = x % 1073741824 := i64_and_mask x 30 (by omega) 1073741823 rfl
  have e2 : bits BinOp.and IntKind.i64 y 1073741823 = y % 1073741824 := i64_and_mask y 30 (by omega) 1073741823 rfl
  generalize x % 1073741824 = a at *
  generalize y % 1073741824 = b at *
  go_enter Tryz.func76, Tryz.ntmps76
  go_wp2
  exact bodyPost_ret (v := .tuple #[.int .i64 a, .int .i64 b]) (by simp [results, Tryz.results76, go_sem]) rfl ⟨rfl, by first | exact Below.refl _ _ | exact below_drewN (Below.refl _ _) _⟩
theorem rem13 (r : Int) : (-13 < r.tmod 13 ∧ r.tmod 13 < 13) ∧ (r.tmod 13 + 13).tmod 13 = r % 13 := by
  have h : (-13 < r.tmod 13 ∧ r.tmod 13 < 13) ∧ (r.tmod 13 + 13) % 13 = r % 13 := by
    rcases Int.lt_or_le r 0 with h | h
    · have e : r.tmod 13 = -((-r) % 13) := by rw [← Int.tmod_eq_emod_of_nonneg (show 0 ≤ -r by omega), Int.neg_tmod, Int.neg_neg]
      omega
    · rw [Int.tmod_eq_emod_of_nonneg h]; omega
  refine ⟨h.1, ?_⟩
  rw [Int.tmod_eq_emod_of_nonneg (by omega)]
  exact h.2
set_option maxRecDepth 100000 in
set_option maxHeartbeats 4000000 in
theorem some_even (x y r : Int) (hy : y % 2 = 0) (w : World) :
    Calls Tryz.prog 42 #[.int .i64 x, .int .i64 y, .int .i64 r] w fun e w' => e = .returned (vC (r % 13) (nearE (x % 1073741824) (y % 1073741824) (r % 13).toNat)) ∧ Below w.heap.size w w' := by
  have e1 : bits BinOp.and IntKind.i64 y 1 = 0 := by rw [i64_and_mask y 1 (by omega) 1 rfl]; exact hy
  obtain ⟨hr2, hr1⟩ := rem13 r
  have hR : r % 13 = ((r % 13).toNat : Int) := by omega
  have hR2 : (r % 13).toNat ≤ 12 := by omega
  have HP := Lib.hid (point_in x y)
  have HNE := Lib.hid (rnear_in (x % 1073741824) (y % 1073741824) (by omega) (by omega) (r % 13).toNat hR2)
  generalize nearE (x % 1073741824) (y % 1073741824) (r % 13).toNat = z at *
  generalize x % 1073741824 = a at *
  generalize y % 1073741824 = b at *
  generalize (r % 13).toNat = R at *
  rw [hR] at hr1 ⊢
  simp only [vE] at HNE
  obtain ⟨s, hs⟩ : ∃ s, r.tmod 13 = s := ⟨_, rfl⟩
  rw [hs] at hr1 hr2
  obtain ⟨hr3, hr4⟩ := hr2
  clear hR hy
  go_enter Tryz.func42, Tryz.ntmps42
  go_wp2_with fail
  refine (HP.out _).mono ?_
  rintro e w1 ⟨rfl, hb1⟩
  have hz := hb1.size
  simp at hz
  have H1 : Hid (Tri w1 w.heap.size 0 (0, 0)) := Tri.later (heap_new _ _ _ rfl) hb1
  have HQ : Hid (Below w.heap.size w w1) := ((Below.refl _ _).alloc (Nat.le_refl _) _).trans (hb1.mono (by simp))
  clear hb1
  go_wp2_with fail
  refine (HNE.out _).mono ?_
  rintro e w2 ⟨rfl, hb2⟩
  have hz2 := hb2.size
  have HT : Hid (Two (w2.alloc (.cells #[.int .i64 z.1, .int .i64 z.2] 30)) w2.heap.size (.int .i64 z.1) (.int .i64 z.2)) := Two.of_row (t := 30) (f := _) (heap_new _ _ _ rfl)
  have H2 : Hid (Tri (w2.alloc (.cells #[.int .i64 z.1, .int .i64 z.2] 30)) w.heap.size 0 (0, 0)) := (H1.out.later hb2).later ((Below.refl _ _).alloc (Nat.le_refl _) _)
  have HQ3 : Hid (Below w.heap.size w (w2.alloc (.cells #[.int .i64 z.1, .int .i64 z.2] 30))) := (HQ.out.trans (hb2.mono (by omega))).alloc (by omega) _
  have hs : w2.heap.size < (w2.alloc (.cells #[.int .i64 z.1, .int .i64 z.2] 30)).heap.size := by simp
  clear hb2 HQ H1
  go_upto_region 5 with (fail)
  generalize w2.alloc (.cells #[.int .i64 z.1, .int .i64 z.2] 30) = w4 at *
  obtain ⟨t0, t1, t2, t3, t4, t5, t6⟩ := H2.out.cells
  obtain ⟨c0, c1⟩ := HT.out
  clear HT H2
  go_wp2
  exact bodyPost_ret (v := .agg #[.int .i64 R, .int .i64 z.1, .int .i64 z.2]) (by simp [results, Tryz.results42, go_sem, *]) rfl ⟨rfl, ((HQ3.out.setCell (p := ⟨w.heap.size, 0, none⟩) (Nat.le_refl _) _).setCell (p := ⟨w.heap.size, 1, none⟩) (Nat.le_refl _) _).setCell (p := ⟨w.heap.size, 2, none⟩) (Nat.le_refl _) _⟩
theorem lword_even (x y r : Int) (hy : y % 2 = 0) (w : World) :
    Calls Tryz.prog 14 #[.int .i64 x, .int .i64 y, .int .i64 r] w fun e w' => e = .returned (.int .u64 (ofW (r % 13) (nearE (x % 1073741824) (y % 1073741824) (r % 13).toNat) : Nat)) ∧ Below w.heap.size w w' := by
  have HS := Lib.hid (some_even x y r hy)
  have HWD := Lib.hid (word_any (r % 13) (nearE (x % 1073741824) (y % 1073741824) (r % 13).toNat))
  generalize nearE (x % 1073741824) (y % 1073741824) (r % 13).toNat = z at *
  generalize r % 13 = R at *
  simp only [vC] at *
  generalize ofW R z = v at *
  generalize ofE R z = v2 at *
  clear hy
  go_enter Tryz.func14, Tryz.ntmps14
  go_wp2_with fail
  refine (HS.out _).mono ?_
  rintro e w1 ⟨rfl, hb1⟩
  go_wp2_with fail
  refine (HWD.out _).mono ?_
  rintro e w2 ⟨rfl, hb2⟩
  have HQ : Hid (Below w.heap.size w w2) := hb1.trans (hb2.mono hb1.size)
  clear hb1 hb2
  go_wp2
  exact bodyPost_ret (v := .int .u64 v) (by simp [results, Tryz.results14, go_sem]) rfl ⟨rfl, HQ.out⟩
end Go.Proofs.YtkjfdaleamonaaaGreat
/- Contracts of apiarylaw4.Some and apiarylaw5.Word at any numbers. -/
namespace Go.Proofs.YtkjfdaleamonaaaGreat
open Go.RowKit Go.Lib Wd

/-- The digits that a number tells; the base cell. -/
def digS (y : Int) (i : Nat) : Nat := (y / 2 ^ (3 * i + 1) % 64 % 7).toNat
def baseS (x : Int) : E2 := (x % 1024 - 512, x / 1024 % 1024 - 512)
def downS (y : Int) (b : E2) : Nat → E2
  | 0 => b
  | i + 1 => downE (downS y b i) (digS y i)
def someE (x y : Int) (r : Nat) : E2 := if y % 2 = 0 then nearE (x % 1073741824) (y % 1073741824) r else downS y (baseS x) r
theorem digS_lt (y : Int) (i : Nat) : digS y i < 7 := by unfold digS; omega
theorem downS_ok (y x : Int) : ∀ i : Nat, i ≤ 12 → okB i (downS y (baseS x) i) = true
  | 0, _ => by
    refine ok_of_base (r := 0) (by omega) ?_
    show baseB (baseS x) = true
    rw [baseB_iff]
    unfold baseS
    simp only
    omega
  | i + 1, h => kid_ok (downS_ok y x i (by omega)) h (digS_lt y i)
theorem some_ok (x y : Int) {r : Nat} (hr : r ≤ 12) : okB r (someE x y r) = true := by
  unfold someE
  split
  · exact near_ok0 (by omega) (by omega) hr
  · exact downS_ok y x r hr
set_option maxRecDepth 100000 in
set_option maxHeartbeats 4000000 in
theorem some_any (x y r : Int) (w : World) : Calls Tryz.prog 42 #[.int .i64 x, .int .i64 y, .int .i64 r] w fun e w' => e = .returned (vC (r % 13) (someE x y (r % 13).toNat)) ∧ Below w.heap.size w w' := by
  by_cases hy : y % 2 = 0
  · have h := some_even x y r hy w
    rw [show nearE (x % 1073741824) (y % 1073741824) (r % 13).toNat = someE x y (r % 13).toNat by unfold someE; rw [if_pos hy]] at h
    exact h
  · have hE : someE x y (r % 13).toNat = downS y (baseS x) (r % 13).toNat := by unfold someE; rw [if_neg hy]
    have e1 : bits BinOp.and IntKind.i64 y 1 = 1 := by rw [i64_and_mask y 1 (by omega) 1 rfl]; omega
    have e2 : bits BinOp.and IntKind.i64 x 1023 = x % 1024 := i64_and_mask x 10 (by omega) 1023 rfl
    have e3 : bits BinOp.and IntKind.i64 (x / 1024) 1023 = x / 1024 % 1024 := i64_and_mask (x / 1024) 10 (by omega) 1023 rfl
    obtain ⟨hr2, hr1⟩ := rem13 r
    have hR : r % 13 = ((r % 13).toNat : Int) := by omega
    have hR2 : (r % 13).toNat ≤ 12 := by omega
    rw [hE]
    generalize (r % 13).toNat = R at *
    rw [hR] at hr1 ⊢
    obtain ⟨s, hs⟩ : ∃ s, r.tmod 13 = s := ⟨_, rfl⟩
    rw [hs] at hr1 hr2
    obtain ⟨hr3, hr4⟩ := hr2
    have HKI : Hid (∀ i : Nat, i < 12 → ∀ w, Calls Tryz.prog 17 #[vC i (downS y (baseS x) i)] w (ToldC w (kidsL i (downS y (baseS x) i)) 0)) := fun i hi w => by
      have h := rkids_any i (downS y (baseS x) i) w
      obtain ⟨d1, d2⟩ := kd_ok (downS_ok y x i (by omega)) (by omega)
      rw [d1, d2] at h
      exact h
    have HGT : Hid (∀ i : Nat, cg (kidsL i (downS y (baseS x) i)) (digS y i) = (((i + 1 : Nat) : Int), downS y (baseS x) (i + 1))) := fun i => by rw [kidsL_get _ _ (digS_lt y i)]; rfl
    have HLN : Hid (∀ (i : Nat) z, (kidsL i z).length = 7) := fun i z => by unfold kidsL; simp
    have HDG : Hid (∀ i : Nat, i < 12 → bits BinOp.and IntKind.i64 (y / 2 ^ (3 * i + 1)) 63 = y / 2 ^ (3 * i + 1) % 64 ∧ (y / 2 ^ (3 * i + 1) % 64).tmod 7 = (digS y i : Int) ∧ digS y i < 7) := fun i _ => by
      refine ⟨i64_and_mask _ 6 (by omega) 63 rfl, ?_, digS_lt y i⟩
      rw [Int.tmod_eq_emod_of_nonneg (Int.emod_nonneg _ (by omega))]
      unfold digS
      omega
    have HD0 : Hid (downS y (baseS x) 0 = (x % 1024 - 512, x / 1024 % 1024 - 512)) := rfl
    obtain ⟨S, hS⟩ : ∃ S, downS y (baseS x) = S := ⟨_, rfl⟩
    rw [hS] at HKI HGT HD0 ⊢
    clear hR hy hE hS
    have m1 : x % 1024 < 1024 := Int.emod_lt_of_pos _ (by omega)
    have m2 : x / 1024 % 1024 < 1024 := Int.emod_lt_of_pos _ (by omega)
    have m3 : 0 ≤ x % 1024 := Int.emod_nonneg _ (by omega)
    have m4 : 0 ≤ x / 1024 % 1024 := Int.emod_nonneg _ (by omega)
    generalize x / 1024 % 1024 = b at *
    generalize x % 1024 = a at *
    simp only [vC] at *
    go_enter Tryz.func42, Tryz.ntmps42
    have k2 : ((w.alloc (.cells #[.int .i64 0, .int .i64 0, .int .i64 0] 32)).alloc (.cells #[.int .i64 0, .int .i64 (a - 512), .int .i64 (b - 512)] 32)).heap.size = w.heap.size + 2 := by simp
    have T0 : Hid (Tri ((w.alloc (.cells #[.int .i64 0, .int .i64 0, .int .i64 0] 32)).alloc (.cells #[.int .i64 0, .int .i64 (a - 512), .int .i64 (b - 512)] 32)) w.heap.size 0 (0, 0)) := by
      show _ = _
      rw [Below.heap_alloc _ _ _ (by simp)]
      exact heap_new _ _ _ rfl
    have C0 : Hid (Tri ((w.alloc (.cells #[.int .i64 0, .int .i64 0, .int .i64 0] 32)).alloc (.cells #[.int .i64 0, .int .i64 (a - 512), .int .i64 (b - 512)] 32)) (w.heap.size + 1) 0 (S 0)) := by rw [HD0.out]; exact heap_new _ _ _ (by simp)
    have HB0 : Hid (Below w.heap.size w ((w.alloc (.cells #[.int .i64 0, .int .i64 0, .int .i64 0] 32)).alloc (.cells #[.int .i64 0, .int .i64 (a - 512), .int .i64 (b - 512)] 32))) := ((Below.refl _ _).alloc (Nat.le_refl _) _).alloc (by simp) _
    go_upto_region 7 with (fail)
    generalize (w.alloc (.cells #[.int .i64 0, .int .i64 0, .int .i64 0] 32)).alloc (.cells #[.int .i64 0, .int .i64 (a - 512), .int .i64 (b - 512)] 32) = w2 at *
    have k3 : w.heap.size + 2 ≤ w2.heap.size := by omega
    clear k2 e2 e3 m1 m2 m3 m4 HD0
    go_wp2
    go_loopw [10] (fun i wr => ∃ k : Nat, k ≤ R ∧ i = .int .i64 k ∧ Hid (Tri wr (w.heap.size + 1) k (S k) ∧ Turn (fun q => q = w.heap.size + 1) w2 wr)) (fun i _ => R - (intOf i).toNat)
    case atStart => exact ⟨0, by omega, rfl, C0.out, Turn.refl _ _⟩
    case round =>
      obtain ⟨k, hk, rfl, HI⟩ := hrel
      have hTri := HI.out.1
      have hturn := HI.out.2
      have hsz := hturn.2.2.2.1
      have HT := Lib.hid (T0.out.turn hturn (by omega))
      have HBR : Hid (Below w.heap.size w wr) := HB0.out.trans (hturn.below (by omega) fun q hq e => by omega)
      have HTU := Lib.hid hturn
      have HTR := Lib.hid hTri
      clear hTri hturn HI
      by_cases hlt : k < R
      · have HK := Lib.hid (HKI.out k (by omega))
        obtain ⟨g1, g2, g3⟩ := HDG.out k (by omega)
        have HG := Lib.hid (HGT.out k)
        have HL7 := Lib.hid (HLN.out k (S k))
        generalize kidsL (k : Int) (S k) = L at *
        generalize digS y k = d at *
        generalize S k = z at *
        obtain ⟨z2, hz2⟩ : ∃ z2, S (k + 1) = z2 := ⟨_, rfl⟩
        rw [hz2] at HG
        have HZ2 := Lib.hid hz2
        clear hz2
        obtain ⟨c0, c1, c2, c3, c4, c5, c6⟩ := HTR.out.cells
        go_wp2_with fail
        refine (HK.out _).mono ?_
        rintro e w4 ⟨ao, c, rfl, h4, hb4⟩
        have HTR2 := Lib.hid (HTR.out.later hb4)
        have HTU2 : Hid (Turn (fun q => q = w.heap.size + 1) w2 w4) := HTU.out.trans (Turn.of_below hb4) fun _ _ h => h
        obtain ⟨g, off, rfl, hg, hc⟩ := h4 (by rw [HL7.out]; omega)
        obtain ⟨v0, v1, v2⟩ := hc d (by rw [HL7.out]; exact g3)
        rw [HG.out] at v0 v1 v2
        simp only at v0 v1 v2
        rw [HL7.out]
        clear c0 c1 c2 c3 c4 c5 c6 hb4 h4 hc HTR HTU HT HBR
        obtain ⟨c0, c1, c2, c3, c4, c5, c6⟩ := HTR2.out.cells
        have hput := HTR2.out.put ((k + 1 : Nat) : Int) z2
        have HF : Hid (Tri (((w4.setCell ⟨w.heap.size + 1, 0, none⟩ (.int .i64 ((k + 1 : Nat) : Int))).setCell ⟨w.heap.size + 1, 1, none⟩ (.int .i64 z2.1)).setCell ⟨w.heap.size + 1, 2, none⟩ (.int .i64 z2.2)) (w.heap.size + 1) ((k + 1 : Nat) : Int) (S (k + 1)) ∧ Turn (fun q => q = w.heap.size + 1) w2 (((w4.setCell ⟨w.heap.size + 1, 0, none⟩ (.int .i64 ((k + 1 : Nat) : Int))).setCell ⟨w.heap.size + 1, 1, none⟩ (.int .i64 z2.1)).setCell ⟨w.heap.size + 1, 2, none⟩ (.int .i64 z2.2))) := ⟨by rw [HZ2.out]; exact hput.1, (HTU2.out).trans hput.2 fun _ _ h => h⟩
        clear hput
        go_wp2
        go_roundw
        case rel => exact ⟨k + 1, by omega, by go_num, HF.out⟩
        case measure => simp [intOf]; omega
      · obtain rfl : k = R := by omega
        obtain ⟨c0, c1, c2, c3, c4, c5, c6⟩ := HTR.out.cells
        obtain ⟨t0, t1, t2, t3, t4, t5, t6⟩ := HT.out.cells
        clear HTR HT HGT HKI HDG
        go_wp2
        exact bodyPost_ret (v := .agg #[.int .i64 k, .int .i64 (S k).1, .int .i64 (S k).2]) (by simp [results, Tryz.results42, go_sem, *]) rfl ⟨rfl, ((HBR.out.setCell (p := ⟨w.heap.size, 0, none⟩) (Nat.le_refl _) _).setCell (p := ⟨w.heap.size, 1, none⟩) (Nat.le_refl _) _).setCell (p := ⟨w.heap.size, 2, none⟩) (Nat.le_refl _) _⟩
theorem lword_any (x y r : Int) (w : World) : Calls Tryz.prog 14 #[.int .i64 x, .int .i64 y, .int .i64 r] w fun e w' => e = .returned (.int .u64 (ofW (r % 13) (someE x y (r % 13).toNat) : Nat)) ∧ Below w.heap.size w w' := by
  have HS := Lib.hid (some_any x y r)
  have HWD := Lib.hid (word_any (r % 13) (someE x y (r % 13).toNat))
  generalize someE x y (r % 13).toNat = z at *
  generalize r % 13 = R at *
  simp only [vC] at *
  generalize ofW R z = v at *
  generalize ofE R z = v2 at *
  go_enter Tryz.func14, Tryz.ntmps14
  go_wp2_with fail
  refine (HS.out _).mono ?_
  rintro e w1 ⟨rfl, hb1⟩
  go_wp2_with fail
  refine (HWD.out _).mono ?_
  rintro e w2 ⟨rfl, hb2⟩
  have HQ : Hid (Below w.heap.size w w2) := hb1.trans (hb2.mono hb1.size)
  clear hb1 hb2
  go_wp2
  exact bodyPost_ret (v := .int .u64 v) (by simp [results, Tryz.results14, go_sem]) rfl ⟨rfl, HQ.out⟩
end Go.Proofs.YtkjfdaleamonaaaGreat
/- The contract of apiarylaw8.awake. -/
namespace Go.Proofs.YtkjfdaleamonaaaGreat
open Go.RowKit Go.Lib Wd

theorem ok_300 : okB (3 : Nat) (0, 0) = true := by decide
theorem uV_one (l : List Int) (x : Int) : uV l ++ [.int .u64 x] = uV (l ++ [x]) := (uV_snoc l x).symm
set_option maxRecDepth 100000 in
set_option maxHeartbeats 16000000 in
theorem awake8_any (w : World) : Calls Tryz.prog 28 #[] w fun e w' => e = .returned (.bool true) ∧ Below w.heap.size w w' := by
  obtain ⟨i0, hi, hz0, hz1, hz2⟩ := info_parts info_u
  have hk := rkids_any (3 : Nat) (0, 0)
  rw [(kd_ok ok_300 (by decide)).1, (kd_ok ok_300 (by decide)).2] at hk
  obtain ⟨W, hW⟩ : ∃ W, wordN 3 (0, 0) = W := ⟨_, rfl⟩
  obtain ⟨K, hK⟩ : ∃ K, kidsW 3 (wordN 3 (0, 0)) = K := ⟨_, rfl⟩
  have hKd : dsN 1 3 (0, 0) = K := by rw [← hK, kids_ds (by decide)]
  have hKs : Sized 4 K := by rw [← hKd]; exact ds_sized (d := 1) (by decide) ok_300
  have hKu : Up K := by rw [← hK]; exact kids_up (by decide) _
  have hKl : K.length = 7 := by rw [← hK]; exact kidsW_len _ _
  obtain ⟨g1, g2, -⟩ := sized_cmp hKs (by omega)
  have g3 : packF 4 K = [(W : Int)] := by rw [← hKd, ← hW]; exact packF_ds (d := 1) (by decide) ok_300
  have hKne : K ≠ [] := fun e => by rw [e] at hKl; cases hKl
  rw [g3] at g2
  obtain ⟨s1, s2⟩ := one_spread ok_300 (R := 4) (by decide) (by decide) (by decide)
  rw [hW] at s1 s2
  rw [show (4 - 3 : Nat) = 1 from rfl, hKd] at s2
  have hF1 : freeB K = true := free_sized hKs hKu.nodup
  have hF2 : freeB ([(W : Int)] ++ K) = false := by
    obtain ⟨v, hv⟩ := List.exists_mem_of_ne_nil K hKne
    exact free_kid (k := 3) (by decide) ok_300 (by rw [hW]; simp) (v := v) (by simp [hv]) (by rw [hK]; exact hv)
  have HWD : Hid (∀ k, k < 7 → ∀ w, Calls Tryz.prog 18 #[vC (cg (kidsL 3 (0, 0)) k).1 (cg (kidsL 3 (0, 0)) k).2] w fun e w' => e = .returned (.tuple #[.int .u64 (K.getD k 0), .int .i64 0]) ∧ Below w.heap.size w w') := fun k hk w => by
    rw [kidsL_get _ _ hk]
    have h := word_any ((4 : Nat) : Int) (downE (0, 0) k) w
    have ho := kid_ok ok_300 (by decide) hk
    rw [(ofW_ok (r := 4) ho).1, (ofW_ok (r := 4) ho).2.1] at h
    rw [← hK, kidsW_get (by decide) hk]
    exact h
  have HTK : Hid (∀ k, k < 7 → K.take (k + 1) = K.take k ++ [K.getD k 0]) := fun k hk => take_w K (by omega)
  have HTE : Hid (K.take 7 = K) := List.take_of_length_le (by omega)
  have HC : Hid (∀ lo lc wx, WordsAt wx wx.heap.size lo K → Calls Tryz.prog 26 #[.slice lo 7 lc] wx (ToldP wx [(W : Int)] 0)) := fun lo lc wx h => by
    have := compact_any lo lc K wx wx.heap.size h (Nat.le_refl _) (by omega) (sized_64 hKs)
    rwa [hKl, g1, g2 hKne] at this
  have hWs : Sized 3 [(W : Int)] := fun v hv => ⟨(0, 0), ok_300, by rw [hW]; exact List.mem_singleton.1 hv⟩
  have HS : Hid (∀ lo lc wx, WordsAt wx wx.heap.size lo [(W : Int)] → Calls Tryz.prog 25 #[.slice lo 1 lc, .int .i64 4] wx (ToldS wx K 0)) := fun lo lc wx h => by
    have := spread_any lo lc [(W : Int)] (4 : Nat) wx wx.heap.size h (Nat.le_refl _) (by simp) (sized_64 hWs)
    rw [s1, s2] at this
    exact this
  have HF1 : Hid (∀ lo lc wx, WordsAt wx wx.heap.size lo K → Calls Tryz.prog 27 #[.slice lo 7 lc] wx fun e w' => e = .returned (.bool true) ∧ Below wx.heap.size wx w') := fun lo lc wx h => by
    have := free_any lo lc K wx wx.heap.size h (Nat.le_refl _) (by omega) (sized_64 hKs)
    rwa [hKl, hF1] at this
  have HF2 : Hid (∀ lo lc wx, WordsAt wx wx.heap.size lo ([(W : Int)] ++ K) → Calls Tryz.prog 27 #[.slice lo 8 lc] wx fun e w' => e = .returned (.bool false) ∧ Below wx.heap.size wx w') := fun lo lc wx h => by
    have := free_any lo lc ([(W : Int)] ++ K) wx wx.heap.size h (Nat.le_refl _) (by simp; omega) (fun v hv => (List.mem_append.1 hv).elim (sized_64 hWs v) (sized_64 hKs v))
    rwa [show ([(W : Int)] ++ K).length = 8 by simp [hKl], hF2] at this
  have HKL := Lib.hid hKl
  have HCL : Hid ((kidsL 3 (0, 0)).length = 7) := rfl
  have HK := Lib.hid hk
  simp only [vC] at HWD HK
  generalize hcl : kidsL (((3 : Nat)) : Int) (0, 0) = C at *
  have HCQ := Lib.hid hcl
  clear hk hW hK hKd hKs hKu hKl g1 g2 g3 hKne s1 s2 hF1 hF2 hWs hcl
  go_enter Tryz.func28, Tryz.ntmps28
  go_wp2_with fail
  refine (HK.out _).mono ?_
  rintro e w1 ⟨co, cc, rfl, hca, hb1⟩
  rw [HCL.out]
  have HCA := Lib.hid hca
  have HB1 := Lib.hid hb1
  clear hca hb1 HK
  go_wp2
  go_loopw [3, 4] (fun sl i wr => ∃ (k : Nat) (lo : Option Addr) (lc : Nat), k ≤ 7 ∧ i = .int .i64 k ∧ sl = .slice lo k lc ∧ Hid (wr.ownsRow w1.heap.size 25 1 (.slice lo k lc) k (uV (K.take k)) ∧ Below w1.heap.size w1 wr)) (fun _ i _ => 7 - (intOf i).toNat)
  case atStart => exact ⟨0, none, 0, by omega, rfl, rfl, World.ownsRow_nil _ _ _ _, Below.refl _ _⟩
  case round =>
    obtain ⟨k, lo, lc, hk, rfl, rfl, HI⟩ := hrel
    by_cases hlt : k < 7
    · obtain ⟨g, off, rfl, hg, hc⟩ := (HCA.out.below HI.out.2) (by rw [HCL.out]; omega)
      obtain ⟨c0, c1, c2⟩ := hc k (by rw [HCL.out]; exact hlt)
      have hwd := HWD.out k hlt
      have htk := HTK.out k hlt
      generalize cg C k = y at *
      generalize K.getD k 0 = x at *
      have HWK := Lib.hid hwd
      have HTK2 := Lib.hid htk
      clear hc hwd htk
      go_wp2_with fail
      refine (HWK.out _).mono ?_
      rintro e w2 ⟨rfl, hb2⟩
      have hs1 := HI.out.2.size
      have HB2 := Lib.hid (HI.out.2.trans (hb2.mono hs1))
      have hown := own_later HI.out.1 hb2
      have HBA := Lib.hid (HB2.out.alloc HB2.out.size (.cells #[.int .u64 x] 25))
      have hbs : w1.heap.size ≤ (w2.alloc (.cells #[.int .u64 x] 25)).heap.size := HBA.out.size
      clear hb2 HI c0 c1 c2 HWK
      go_wp2_with (at_builtin; refine wpList_append_own_at _ rfl (.tmp 30) (.tmp 32) 22 rfl w1.heap.size 25 i0 (.int .u64 0) 1 8 Tryz.underlying22 hi hz0 hz1 hz2 rfl (by decide) _ k (uV (K.take k)) rfl (hown.alloc _) ⟨w2.heap.size, 0, none⟩ 1 1 [.int .u64 x] rfl rfl (cells_new _ _ _ _ rfl) (by simp [Value.oneCell']) (by unfold maxLen; omega) (by omega) hbs ?_; intro v3 w3 hown1 hgrow _ _)
      obtain ⟨lo', lc', rfl, -⟩ := own_form hown1
      have HO3 : Hid (w3.ownsRow w1.heap.size 25 1 (.slice lo' (k + 1) lc') (k + 1) (uV (K.take (k + 1)))) := by rw [HTK2.out, uV_snoc]; exact hown1
      have HB3 := Lib.hid (below_append HBA.out (hown.alloc (.cells #[.int .u64 x] 25)) hbs hgrow)
      clear hown hown1 hgrow hbs HBA HB2
      go_roundw
      case rel => exact ⟨k + 1, lo', lc', by omega, by go_num, rfl, HO3.out, HB3.out⟩
      case measure => simp [intOf]; omega
    · obtain rfl : k = 7 := by omega
      have ho := HI.out.1
      rw [HTE.out] at ho
      have HO := Lib.hid ho
      have HBR := Lib.hid HI.out.2
      have HCC := Lib.hid (HC.out lo lc wr (words_own HKL.out.symm ho))
      clear ho HI HC
      go_wp2_with fail
      refine HCC.out.mono ?_
      rintro e w2 ⟨po, pc, rfl, hp2, hb2⟩
      have HP2 := Lib.hid hp2
      have HO2 := Lib.hid (own_later HO.out hb2)
      have HB2 := Lib.hid (HBR.out.trans (hb2.mono HBR.out.size))
      have HSS := Lib.hid (HS.out po pc w2 (words_own rfl hp2))
      have HPB : Hid (w1.heap.size ≤ wr.heap.size) := HBR.out.size
      clear hp2 hb2 HCC HO HBR HS
      go_wp2_with fail
      refine HSS.out.mono ?_
      rintro e w3 ⟨so, sc, rfl, -, hws, hb3⟩
      rw [HKL.out]
      have HO3 := Lib.hid (own_later HO2.out hb3)
      have HP3 := Lib.hid (own_base (own_later HP2.out hb3) HPB.out)
      have HB3 := Lib.hid (HB2.out.trans (hb3.mono HB2.out.size))
      have HFA := Lib.hid (HF1.out lo lc w3 (words_own HKL.out.symm HO3.out))
      clear hws hb3 HSS HO2 HP2 HB2
      go_wp2_with fail
      refine HFA.out.mono ?_
      rintro e w4 ⟨rfl, hb4⟩
      have HO4 := Lib.hid (own_later HO3.out hb4)
      have HP4 := Lib.hid (own_later HP3.out hb4)
      have HB4 := Lib.hid (HB3.out.trans (hb4.mono HB3.out.size))
      obtain ⟨v5, w5, hrun, hown5, hg5, -⟩ := append_words_at HP4.out (words_own HKL.out.symm HO4.out) HKL.out (own_none HO4.out) HB4.out.size (by simp)
      have HRUN := Lib.hid hrun
      obtain ⟨qo, qc, rfl, -⟩ := own_form hown5
      have HB5 := Lib.hid (below_append HB4.out HP4.out HB4.out.size hg5)
      have HFB := Lib.hid (HF2.out qo qc w5 (words_own (by simp [HKL.out]) hown5))
      clear hb4 hrun hown5 hg5 HFA HO3 HP3 HB3
      go_wp2_with (at_builtin; refine wpList_append_want _ (by kernel_rfl) (.tmp 65) (.tmp 66) 22 22 rfl _ _ rfl rfl _ _ HRUN.out ?_)
      refine HFB.out.mono ?_
      rintro e w6 ⟨rfl, hb6⟩
      have HB6 := Lib.hid (HB1.out.trans ((HB5.out.trans (hb6.mono HB5.out.size)).mono HB1.out.size))
      clear hb6
      go_wp2
      go_ret
      exact ⟨rfl, HB6.out⟩
end Go.Proofs.YtkjfdaleamonaaaGreat
/- apiarylaw5.Word as a word of some cell; lists in new blocks; a row of zeros; what pack's functions tell of short lists. -/
namespace Go.Proofs.YtkjfdaleamonaaaGreat
open Go.RowKit Go.Lib Go.Sort Wd

theorem lword_w (x y r : Int) (w : World) : Calls Tryz.prog 14 #[.int .i64 x, .int .i64 y, .int .i64 r] w fun e w' => e = .returned (.int .u64 (wordN (r % 13).toNat (someE x y (r % 13).toNat) : Nat)) ∧ Below w.heap.size w w' := by
  have h := lword_any x y r w
  obtain ⟨p, hp⟩ : ∃ p : Nat, r % 13 = p := ⟨(r % 13).toNat, by omega⟩
  rw [hp, Int.toNat_natCast] at h ⊢
  rw [(ofW_ok (some_ok x y (r := p) (by omega))).1] at h
  exact h
theorem in64_cons {x : Nat} {l : List Int} (hx : x < 18446744073709551616) (h : In64 l) : In64 ((x : Int) :: l) := fun v hv => by
  rcases List.mem_cons.1 hv with rfl | hv
  · exact ⟨by omega, by omega⟩
  · exact h v hv
theorem in64_nil : In64 [] := fun v hv => by cases hv
theorem in64_rep (n : Nat) {x : Nat} (hx : x < 18446744073709551616) : In64 (List.replicate n (x : Int)) := fun v hv => by
  obtain rfl := List.eq_of_mem_replicate hv
  exact ⟨by omega, by omega⟩
theorem uV_rep (n : Nat) (x : Int) : uV (List.replicate n x) = List.replicate n (.int .u64 x) := by unfold uV; rw [List.map_replicate]
theorem made_zeros (n : Nat) : (madeCells #[.int .u64 0] (n * 1)).toList = List.replicate n (.int .u64 0) := by
  refine List.ext_getElem? fun i => ?_
  unfold madeCells
  by_cases h : i < n
  · simp [h, Nat.mod_one]
  · simp [h]
theorem isW0 : isW 0 = false := by decide
end Go.Proofs.YtkjfdaleamonaaaGreat
/- Contract of apiaryref1.kids at words of cells above the finest size. -/
namespace Go.Proofs.YtkjfdaleamonaaaGreat
open Go.RowKit Go.Lib Wd

set_option maxRecDepth 100000 in
set_option maxHeartbeats 8000000 in
theorem rkw_in {k : Nat} {z : E2} (hz : okB k z = true) (hk : k + 1 ≤ 12) (w : World) : Calls Tryz.prog 68 #[.int .u64 (wordN k z : Nat)] w fun e w' => ∃ ao c, e = .returned (.slice ao 7 c) ∧ w'.ownsRow w.heap.size 25 1 (.slice ao 7 c) 7 (uV (dsN 1 k z)) ∧ Below w.heap.size w w' := by
  obtain ⟨i0, hi, hz0, hz1, hz2⟩ := info_parts info_u
  obtain ⟨b1, b2, b3⟩ := word_cell hz
  have lW := (wordN_lt hz).1
  have HRC : Hid (∀ w, Calls Tryz.prog 16 #[.int .u64 (wordN k z : Nat)] w fun e w' => e = .returned (.tuple #[.agg #[.int .i64 k, .int .i64 z.1, .int .i64 z.2], .int .i64 0]) ∧ Below w.heap.size w w') := fun w => by
    have h := rcell_any (wordN k z) (by omega) w
    unfold cvR cvZ cvE at h
    rw [if_pos b1, if_pos b1, if_pos b1, b2, b3] at h
    exact h
  have hkk := rkids_any (k : Int) z
  rw [(kd_ok hz hk).1, (kd_ok hz hk).2] at hkk
  obtain ⟨K, hK⟩ : ∃ K, dsN 1 k z = K := ⟨_, rfl⟩
  have hKl : K.length = 7 := by rw [← hK]; exact ds_len _ _ _
  have HWD : Hid (∀ i, i < 7 → ∀ w, Calls Tryz.prog 18 #[vC (cg (kidsL k z) i).1 (cg (kidsL k z) i).2] w fun e w' => e = .returned (.tuple #[.int .u64 (K.getD i 0), .int .i64 0]) ∧ Below w.heap.size w w') := fun i hi w => by
    rw [kidsL_get _ _ hi]
    have h := word_any (((k + 1 : Nat)) : Int) (downE z i) w
    have ho := kid_ok hz hk hi
    rw [(ofW_ok (r := k + 1) ho).1, (ofW_ok (r := k + 1) ho).2.1] at h
    rw [← hK, ← kids_ds hk, kidsW_get hk hi]
    exact h
  have HTK : Hid (∀ i, i < 7 → K.take (i + 1) = K.take i ++ [K.getD i 0]) := fun i hi => take_w K (by omega)
  have HTE : Hid (K.take 7 = K) := List.take_of_length_le (by omega)
  have HCL : Hid ((kidsL k z).length = 7) := rfl
  have HK := Lib.hid hkk
  simp only [vC] at HWD HK
  generalize hcl : kidsL (((k : Nat)) : Int) z = C at *
  generalize wordN k z = W at *
  rw [hK]
  clear hkk hK hKl hcl b1 b2 b3 lW
  go_enter Tryz.func68, Tryz.ntmps68
  go_wp2_with fail
  refine (HRC.out _).mono ?_
  rintro e w0 ⟨rfl, hb0⟩
  have B0 : Hid (Below w.heap.size w (w0.alloc (.cells #[.int .i64 k, .int .i64 z.1, .int .i64 z.2] 32))) := hb0.alloc hb0.size _
  have T0 : Hid (Tri (w0.alloc (.cells #[.int .i64 k, .int .i64 z.1, .int .i64 z.2] 32)) w0.heap.size k z) := heap_new _ _ _ rfl
  clear hb0
  go_upto_region 2 with (fail)
  generalize w0.alloc (.cells #[.int .i64 k, .int .i64 z.1, .int .i64 z.2] 32) = wc at *
  obtain ⟨t0, t1, t2, t3, t4, t5, t6⟩ := T0.out.cells
  go_wp2_with fail
  refine (HK.out _).mono ?_
  rintro e w1 ⟨co, cc, rfl, hca, hb1⟩
  rw [HCL.out]
  have HCA := Lib.hid hca
  have HB1 := Lib.hid (B0.out.trans (hb1.mono B0.out.size))
  clear hca hb1 HK B0 T0 t0 t1 t2 t3 t4 t5 t6
  go_wp2
  go_loopw [7, 8] (fun sl i wr => ∃ (j : Nat) (lo : Option Addr) (lc : Nat), j ≤ 7 ∧ i = .int .i64 j ∧ sl = .slice lo j lc ∧ Hid (wr.ownsRow w1.heap.size 25 1 (.slice lo j lc) j (uV (K.take j)) ∧ Below w1.heap.size w1 wr)) (fun _ i _ => 7 - (intOf i).toNat)
  case atStart => exact ⟨0, none, 0, by omega, rfl, rfl, World.ownsRow_nil _ _ _ _, Below.refl _ _⟩
  case round =>
    obtain ⟨j, lo, lc, hj, rfl, rfl, HI⟩ := hrel
    by_cases hlt : j < 7
    · obtain ⟨g, off, rfl, hg, hc⟩ := (HCA.out.below HI.out.2) (by rw [HCL.out]; omega)
      obtain ⟨c0, c1, c2⟩ := hc j (by rw [HCL.out]; exact hlt)
      have hwd := HWD.out j hlt
      have htk := HTK.out j hlt
      generalize cg C j = y at *
      generalize K.getD j 0 = x at *
      have HWK := Lib.hid hwd
      have HTK2 := Lib.hid htk
      clear hc hwd htk
      go_wp2_with fail
      refine (HWK.out _).mono ?_
      rintro e w2 ⟨rfl, hb2⟩
      have hs1 := HI.out.2.size
      have HB2 := Lib.hid (HI.out.2.trans (hb2.mono hs1))
      have hown := own_later HI.out.1 hb2
      have HBA := Lib.hid (HB2.out.alloc HB2.out.size (.cells #[.int .u64 x] 25))
      have hbs : w1.heap.size ≤ (w2.alloc (.cells #[.int .u64 x] 25)).heap.size := HBA.out.size
      clear hb2 HI c0 c1 c2 HWK
      go_wp2_with (at_builtin; refine wpList_append_own_at _ rfl (.tmp 39) (.tmp 41) 22 rfl w1.heap.size 25 i0 (.int .u64 0) 1 8 Tryz.underlying22 hi hz0 hz1 hz2 rfl (by decide) _ j (uV (K.take j)) rfl (hown.alloc _) ⟨w2.heap.size, 0, none⟩ 1 1 [.int .u64 x] rfl rfl (cells_new _ _ _ _ rfl) (by simp [Value.oneCell']) (by unfold maxLen; omega) (by omega) hbs ?_; intro v3 w3 hown1 hgrow _ _)
      obtain ⟨lo', lc', rfl, -⟩ := own_form hown1
      have HO3 : Hid (w3.ownsRow w1.heap.size 25 1 (.slice lo' (j + 1) lc') (j + 1) (uV (K.take (j + 1)))) := by rw [HTK2.out, uV_snoc]; exact hown1
      have HB3 := Lib.hid (below_append HBA.out (hown.alloc (.cells #[.int .u64 x] 25)) hbs hgrow)
      clear hown hown1 hgrow hbs HBA HB2
      go_roundw
      case rel => exact ⟨j + 1, lo', lc', by omega, by go_num, rfl, HO3.out, HB3.out⟩
      case measure => simp [intOf]; omega
    · obtain rfl : j = 7 := by omega
      have ho := HI.out.1
      rw [HTE.out] at ho
      have hbb := HB1.out.trans (HI.out.2.mono HB1.out.size)
      have HF : Hid (∃ ao c, Ending.returned (.slice lo 7 lc) = .returned (.slice ao 7 c) ∧ wr.ownsRow w.heap.size 25 1 (.slice ao 7 c) 7 (uV K) ∧ Below w.heap.size w wr) := ⟨lo, lc, rfl, own_base ho HB1.out.size, hbb⟩
      clear ho hbb HI HB1
      go_wp2
      go_ret
      exact HF.out
end Go.Proofs.YtkjfdaleamonaaaGreat
/- The contract of apiaryref1.IsWord. -/
namespace Go.Proofs.YtkjfdaleamonaaaGreat
open Go.RowKit Go.Lib Wd

theorem isw_any (w0 : Nat) (hw : w0 < 18446744073709551616) (w : World) : Calls Tryz.prog 22 #[.int .u64 w0] w fun e w' => e = .returned (.bool (isW w0)) ∧ Below w.heap.size w w' := by
  have HC := Lib.hid (rcell_any w0 hw)
  have HE : Hid ((cvE w0 == 0) = isW w0) := by
    show _ = _
    unfold cvE
    cases isW w0 <;> rfl
  simp only [vC] at HC
  generalize cvR w0 = r at *
  generalize cvZ w0 = z at *
  generalize cvE w0 = e0 at *
  go_enter Tryz.func22, Tryz.ntmps22
  go_wp2_with fail
  refine (HC.out _).mono ?_
  rintro e w1 ⟨rfl, hb⟩
  have HB := Lib.hid hb
  have hz := hb.size
  clear hb
  go_wp2
  go_ret
  exact ⟨by rw [← HE.out]; rfl, HB.out.alloc hz _⟩
end Go.Proofs.YtkjfdaleamonaaaGreat
/- Contract of apiaryref1.Size. -/
namespace Go.Proofs.YtkjfdaleamonaaaGreat
open Go.RowKit Go.Lib Wd

theorem rW_lt (u : Nat) : rW u < 16 := Nat.mod_lt _ (by decide)
/-- What Size tells, by cases. -/
theorem sz_bad {l : List Int} {r : Int} {k : Nat} (hk : k < l.length) (h : isW (l.getD k 0).toNat = false) : szE l r = 5 ∧ szN l r = 0 := by
  have e : szE l r = 5 := by
    unfold szE
    rw [if_pos]
    unfold allW
    rw [List.all_eq_false]
    exact ⟨_, getD_mem hk, by rw [h]; decide⟩
  exact ⟨e, by unfold szN; rw [e]; rfl⟩
theorem sz_all {l : List Int} (h : ∀ k, k < l.length → isW (l.getD k 0).toNat = true) : allW l = true := by
  unfold allW
  rw [List.all_eq_true]
  intro v hv
  obtain ⟨k, hk, rfl⟩ := List.getElem_of_mem hv
  have := h k hk
  rwa [List.getD_eq_getElem?_getD, List.getElem?_eq_getElem hk, Option.getD_some] at this
theorem sz_big {l : List Int} {r : Int} (ha : allW l = true) {k : Nat} (hk : k < l.length) (h : r < (rW (l.getD k 0).toNat : Int)) : szE l r = 8 ∧ szN l r = 0 := by
  have e : szE l r = 8 := by
    unfold szE
    rw [if_neg (by rw [ha]; decide), if_pos]
    rw [List.any_eq_true]
    exact ⟨_, getD_mem hk, decide_eq_true h⟩
  exact ⟨e, by unfold szN; rw [e]; rfl⟩
theorem sz_small {l : List Int} {r : Int} (h : ∀ k, k < l.length → (rW (l.getD k 0).toNat : Int) ≤ r) : l.any (fun v => decide (r < (rW v.toNat : Int))) = false := by
  rw [List.any_eq_false]
  intro v hv
  obtain ⟨k, hk, rfl⟩ := List.getElem_of_mem hv
  have := h k hk
  rw [List.getD_eq_getElem?_getD, List.getElem?_eq_getElem hk, Option.getD_some] at this
  rw [decide_eq_true_eq]
  omega
theorem sz_arg {l : List Int} {r : Int} (ha : allW l = true) (hs : l.any (fun v => decide (r < (rW v.toNat : Int))) = false) (h : r < 0 ∨ 12 < r) : szE l r = 1 ∧ szN l r = 0 := by
  have e : szE l r = 1 := by
    unfold szE
    rw [if_neg (by rw [ha]; decide), if_neg (by rw [hs]; decide), if_pos h]
  exact ⟨e, by unfold szN; rw [e]; rfl⟩
theorem sz_many {l : List Int} {R : Nat} (ha : allW l = true) (hs : l.any (fun v => decide ((R : Int) < (rW v.toNat : Int))) = false) (hR : R ≤ 12) {k : Nat} (h : 1099511627776 < sumS R (l.take k)) : szE l R = 7 ∧ szN l R = 0 := by
  have e : szE l R = 7 := by
    unfold szE
    rw [if_neg (by rw [ha]; decide), if_neg (by rw [hs]; decide), if_neg (by omega), Int.toNat_natCast, if_pos (Nat.lt_of_lt_of_le h (sumS_le R k))]
  exact ⟨e, by unfold szN; rw [e]; rfl⟩
theorem sz_ok {l : List Int} {R : Nat} (ha : allW l = true) (hs : l.any (fun v => decide ((R : Int) < (rW v.toNat : Int))) = false) (hR : R ≤ 12) (h : sumS R l ≤ 1099511627776) : szE l R = 0 ∧ szN l R = (sumS R l : Int) := by
  have e : szE l R = 0 := by
    unfold szE
    rw [if_neg (by rw [ha]; decide), if_neg (by rw [hs]; decide), if_neg (by omega), Int.toNat_natCast, if_neg (by omega)]
  exact ⟨e, by unfold szN; rw [e, if_pos rfl, Int.toNat_natCast]⟩
set_option maxRecDepth 100000 in
set_option maxHeartbeats 8000000 in
theorem rsize_any (ao : Option Addr) (c : Nat) (l : List Int) (r : Int) (w : World) (B : Nat) (h : WordsAt w B ao l) (hB : B ≤ w.heap.size) (hn : l.length ≤ 1000000) (h64 : In64 l) :
    Calls Tryz.prog 36 #[.slice ao l.length c, .int .i64 r] w fun e w' => e = .returned (.tuple #[.int .i64 (szN l r), .int .i64 (szE l r)]) ∧ Below w.heap.size w w' := by
  obtain ⟨n, hnn⟩ : ∃ n, l.length = n := ⟨_, rfl⟩
  have HN := Lib.hid hnn
  have HW := Lib.hid h
  have HV : Hid (∀ k, k < n → ∃ u : Nat, l.getD k 0 = u ∧ u < 18446744073709551616) := fun k hk => by
    have := h64 _ (getD_mem (j := k) (l := l) (by omega))
    exact ⟨(l.getD k 0).toNat, by omega, by omega⟩
  have HISW : Hid (∀ u : Nat, u < 18446744073709551616 → ∀ w, _) := isw_any
  have HX1 := Lib.hid (fun k (hk : k < n) hw => sz_bad (l := l) (r := r) (k := k) (by rw [HN.out]; exact hk) hw)
  have HX2 : Hid ((∀ k, k < n → isW (l.getD k 0).toNat = true) → allW l = true) := fun hh => sz_all (by rw [HN.out]; exact hh)
  have HX3 := Lib.hid (fun ha k (hk : k < n) hw => sz_big (l := l) (r := r) ha (k := k) (by rw [HN.out]; exact hk) hw)
  have HX4 : Hid ((∀ k, k < n → (rW (l.getD k 0).toNat : Int) ≤ r) → l.any (fun v => decide (r < (rW v.toNat : Int))) = false) := fun hh => sz_small (by rw [HN.out]; exact hh)
  have HX5 := Lib.hid (fun ha hs hr => sz_arg (l := l) (r := r) ha hs hr)
  have HX6 : Hid (∀ R : Nat, r = R → allW l = true → l.any (fun v => decide (r < (rW v.toNat : Int))) = false → R ≤ 12 → ∀ k, 1099511627776 < sumS R (l.take k) → szE l r = 7 ∧ szN l r = 0) := fun R e ha hs hR k hk => by subst e; exact sz_many ha hs hR hk
  have HX7 : Hid (∀ R : Nat, r = R → allW l = true → l.any (fun v => decide (r < (rW v.toNat : Int))) = false → R ≤ 12 → sumS R l ≤ 1099511627776 → szE l r = 0 ∧ szN l r = (sumS R l : Int)) := fun R e ha hs hR hk => by subst e; exact sz_ok ha hs hR hk
  have HSN : Hid (∀ R k, k < n → sumS R (l.take (k + 1)) = sumS R (l.take k) + 7 ^ (R - rW (l.getD k 0).toNat)) := fun R k hk => sumS_snoc R l (by rw [HN.out]; exact hk)
  have HEND : Hid (l.take n = l) := List.take_of_length_le (by rw [hnn]; exact Nat.le_refl _)
  rw [hnn] at hn ⊢
  generalize szE l r = E at *
  generalize szN l r = N at *
  clear hnn h h64
  go_enter Tryz.func36, Tryz.ntmps36
  go_wp2
  go_loopw [6] (fun i wr => ∃ (k : Nat), k ≤ n ∧ i = .int .i64 k ∧ Hid (∀ j, j < k → isW (l.getD j 0).toNat = true) ∧ Hid (Below w.heap.size w wr)) (fun i _ => n - (intOf i).toNat)
  case atStart => exact ⟨0, by omega, rfl, fun j hj => by omega, Below.refl _ _⟩
  case round =>
    obtain ⟨k, hk, rfl, HA, HI⟩ := hrel
    have hsz := HI.out.size
    by_cases hlt : k < n
    · obtain ⟨g, off, rfl, hg, hc⟩ := (HW.out.below HI.out hB) (by rw [HN.out]; omega)
      have c0 := hc k (by rw [HN.out]; exact hlt)
      obtain ⟨u, hu, hu2⟩ := HV.out k hlt
      have hx1 := HX1.out k hlt
      have ha2 : isW (l.getD k 0).toNat = true → ∀ j, j < k + 1 → isW (l.getD j 0).toNat = true := fun hk2 j hj => by
        by_cases e : j = k
        · rw [e]; exact hk2
        · exact HA.out j (by omega)
      rw [hu, Int.toNat_natCast] at hx1 ha2
      rw [hu] at c0
      have HIW := Lib.hid (HISW.out u hu2)
      have hgw : g < wr.heap.size := by omega
      have q1 : decide ((k : Int) < (n : Int)) = true := decide_eq_true (by omega)
      cases hiw : isW u with
      | false =>
        obtain ⟨e1, e2⟩ := hx1 hiw
        have HIW2 : Hid (∀ w, Calls Tryz.prog 22 #[.int .u64 u] w fun e w' => e = .returned (.bool false) ∧ Below w.heap.size w w') := fun w => by have := HIW.out w; rwa [hiw] at this
        have HE := Lib.hid (And.intro e1 e2)
        clear hc hx1 ha2 e1 e2 hiw HIW hu
        go_wp2_with fail
        refine (HIW2.out _).mono ?_
        rintro e w2 ⟨rfl, hb2⟩
        have HB2 := Lib.hid (HI.out.trans (hb2.mono hsz))
        clear hb2
        go_wp2
        go_ret2
        exact ⟨by rw [HE.out.1, HE.out.2]; rfl, HB2.out⟩
      | true =>
        have HA2 := Lib.hid (ha2 hiw)
        have HIW2 : Hid (∀ w, Calls Tryz.prog 22 #[.int .u64 u] w fun e w' => e = .returned (.bool true) ∧ Below w.heap.size w w') := fun w => by have := HIW.out w; rwa [hiw] at this
        clear hc hx1 ha2 hiw HIW hu
        go_wp2_with fail
        refine (HIW2.out _).mono ?_
        rintro e w2 ⟨rfl, hb2⟩
        have HB2 := Lib.hid (HI.out.trans (hb2.mono hsz))
        clear hb2 c0
        go_wp2
        go_roundw
        case rel => exact ⟨k + 1, by omega, by go_num, HA2.out, HB2.out⟩
        case measure => simp [intOf]; omega
    · obtain rfl : k = n := by omega
      have HAL := Lib.hid (HX2.out HA.out)
      have q1 : decide ((k : Int) < (k : Int)) = false := decide_eq_false (by omega)
      obtain ⟨w0, rfl⟩ : ∃ w0, w0 = wr := ⟨_, rfl⟩
      clear HX1 HX2 HISW HA
      go_wp2
      go_loopw [7] (fun i wr => ∃ (j : Nat), j ≤ k ∧ i = .int .i64 j ∧ Hid (∀ m, m < j → (rW (l.getD m 0).toNat : Int) ≤ r) ∧ Hid (Below w.heap.size w wr)) (fun i _ => k - (intOf i).toNat)
      case atStart => exact ⟨0, by omega, rfl, fun j hj => by omega, HI.out⟩
      case round =>
        obtain ⟨j, hj, rfl, HA, HI⟩ := hrel
        have hsz := HI.out.size
        by_cases hlt : j < k
        · obtain ⟨g, off, rfl, hg, hc⟩ := (HW.out.below HI.out hB) (by rw [HN.out]; omega)
          have c0 := hc j (by rw [HN.out]; exact hlt)
          obtain ⟨u, hu, hu2⟩ := HV.out j hlt
          have hx3 := HX3.out HAL.out j hlt
          have ha2 : (rW (l.getD j 0).toNat : Int) ≤ r → ∀ m, m < j + 1 → (rW (l.getD m 0).toNat : Int) ≤ r := fun hk2 m hm => by
            by_cases e : m = j
            · rw [e]; exact hk2
            · exact HA.out m (by omega)
          rw [hu, Int.toNat_natCast] at hx3 ha2
          rw [hu] at c0
          obtain ⟨v1, -, -⟩ := head_val u hu2
          have hr16 := rW_lt u
          generalize rW u = R at *
          have hgw : g < wr.heap.size := by omega
          have q1 : decide ((j : Int) < (k : Int)) = true := decide_eq_true (by omega)
          by_cases hbig : r < (R : Int)
          · obtain ⟨e1, e2⟩ := hx3 hbig
            have HE := Lib.hid (And.intro e1 e2)
            have q2 : decide (r < (R : Int)) = true := decide_eq_true hbig
            clear hc hx3 ha2 e1 e2 hu hbig
            go_wp2
            go_ret2
            exact ⟨by rw [HE.out.1, HE.out.2]; rfl, HI.out⟩
          · have HA2 := Lib.hid (ha2 (by omega))
            have q2 : decide (r < (R : Int)) = false := decide_eq_false hbig
            clear hc hx3 ha2 hu hbig
            go_wp2
            go_roundw
            case rel => exact ⟨j + 1, by omega, by go_num, HA2.out, HI.out⟩
            case measure => simp [intOf]; omega
        · obtain rfl : j = k := by omega
          have HSM := Lib.hid (HX4.out HA.out)
          have HLE := HA
          have q1 : decide ((j : Int) < (j : Int)) = false := decide_eq_false (by omega)
          obtain ⟨w1, rfl⟩ : ∃ w1, w1 = wr := ⟨_, rfl⟩
          clear HX3 HX4 HA
          by_cases hr : r < 0 ∨ 12 < r
          · have HE := Lib.hid (HX5.out HAL.out HSM.out hr)
            have hr' : (decide (r < 0) = true) ∨ (decide (r < 0) = false ∧ decide (12 < r) = true) := by
              by_cases h : r < 0
              · exact .inl (decide_eq_true h)
              · exact .inr ⟨decide_eq_false h, decide_eq_true (by omega)⟩
            clear hr
            rcases hr' with q1 | ⟨q1, q2⟩
            all_goals
              go_wp2
              go_ret2
              exact ⟨by rw [HE.out.1, HE.out.2]; rfl, HI.out⟩
          · obtain ⟨R, rfl⟩ : ∃ R : Nat, r = R := ⟨r.toNat, by omega⟩
            have hR : R ≤ 12 := by omega
            have p1 : decide ((R : Int) < 0) = false := decide_eq_false (by omega)
            have p2 : decide (12 < (R : Int)) = false := decide_eq_false (by omega)
            have p3 : decide (12 < R) = false := decide_eq_false (by omega)
            have HX6' := Lib.hid (HX6.out R rfl HAL.out HSM.out hR)
            have HX7' := Lib.hid (HX7.out R rfl HAL.out HSM.out hR)
            have HSV : Hid (∀ d, d ≤ 12 → ∀ w, Calls Tryz.prog 31 #[.int .i64 ((d : Nat) : Int)] w fun e w' => e = .returned (.int .i64 ((7 ^ d : Nat) : Int)) ∧ Below w.heap.size w w') := fun d hd w => by
              have := rseven_in d hd w
              rwa [show ((7 : Int) ^ d) = ((7 ^ d : Nat) : Int) by rw [Int.natCast_pow]; rfl] at this
            clear HX5 HX6 HX7 hr HAL HSM
            go_wp2
            go_loopw [8, 9] (fun sv i wr => ∃ (k S : Nat), k ≤ j ∧ i = .int .i64 k ∧ sv = .int .i64 S ∧ S ≤ 1099511627776 ∧ Hid (S = sumS R (l.take k)) ∧ Hid (Below w.heap.size w wr)) (fun _ i _ => j - (intOf i).toNat)
            case atStart => exact ⟨0, 0, by omega, rfl, rfl, by omega, rfl, HI.out⟩
            case round =>
              obtain ⟨k, S, hk, rfl, rfl, hS, HS, HI⟩ := hrel
              have hsz := HI.out.size
              by_cases hlt : k < j
              · obtain ⟨g, off, rfl, hg, hc⟩ := (HW.out.below HI.out hB) (by rw [HN.out]; omega)
                have c0 := hc k (by rw [HN.out]; exact hlt)
                obtain ⟨u, hu, hu2⟩ := HV.out k hlt
                have hsn := HSN.out R k hlt
                have hle := HLE.out k hlt
                rw [← HS.out, hu, Int.toNat_natCast] at hsn
                rw [hu, Int.toNat_natCast] at hle
                rw [hu] at c0
                obtain ⟨v1, -, -⟩ := head_val u hu2
                generalize rW u = q at *
                obtain ⟨d, hd⟩ : ∃ d, R - q = d := ⟨_, rfl⟩
                have hd2 : (R : Int) - (q : Int) = (d : Int) := by omega
                have HSW := Lib.hid (HSV.out d (by omega))
                have hp := seven_le (k := d) (by omega)
                rw [hd] at hsn
                generalize 7 ^ d = P at *
                have hx6 := HX6'.out (k + 1)
                rw [hsn] at hx6
                have HSN2 := Lib.hid hsn
                have hgw : g < wr.heap.size := by omega
                have hq15 : q ≤ 15 := by omega
                have q1 : decide ((k : Int) < (j : Int)) = true := decide_eq_true (by omega)
                have hsum : (S : Int) + (P : Int) = ((S + P : Nat) : Int) := by omega
                obtain ⟨S2, hS2⟩ : ∃ S2, S + P = S2 := ⟨_, rfl⟩
                rw [hS2] at hsum hx6
                have HSN3 : Hid (S2 = sumS R (l.take (k + 1))) := by show _ = _; rw [HSN2.out, hS2]
                have hS2b : S2 ≤ 2199023255552 := by omega
                clear hc hu hsn HSN2 hle hd hS2
                go_wp2_with fail
                refine (HSW.out _).mono ?_
                rintro e w2 ⟨rfl, hb2⟩
                have HB2 := Lib.hid (HI.out.trans (hb2.mono hsz))
                clear hb2 c0
                by_cases hbig : 1099511627776 < S2
                · have HE := Lib.hid (hx6 hbig)
                  have q2 : decide (1099511627776 < (S2 : Int)) = true := decide_eq_true (by omega)
                  clear hx6 hbig
                  go_wp2
                  go_ret2
                  exact ⟨by rw [HE.out.1, HE.out.2]; rfl, HB2.out⟩
                · have q2 : decide (1099511627776 < (S2 : Int)) = false := decide_eq_false (by omega)
                  clear hx6
                  go_wp2
                  go_roundw
                  case rel => exact ⟨k + 1, S2, by omega, by go_num, rfl, by omega, HSN3.out, HB2.out⟩
                  case measure => simp [intOf]; omega
              · obtain rfl : k = j := by omega
                have q1 : decide ((k : Int) < (k : Int)) = false := decide_eq_false (by omega)
                have hs := HS.out
                rw [HEND.out] at hs
                have he := HX7'.out (by rw [← hs]; exact hS)
                rw [← hs] at he
                have HE := Lib.hid he
                clear hs he
                go_wp2
                go_ret2
                exact ⟨by rw [HE.out.1, HE.out.2]; rfl, HI.out⟩
end Go.Proofs.YtkjfdaleamonaaaGreat
/- apiaryref1.Set once more: what comes out is a row of the call's own. -/
namespace Go.Proofs.YtkjfdaleamonaaaGreat
open Go.RowKit Go.Lib Go.Sort

def JoinedO (w : World) (l : List Int) (e : Ending) (w' : World) : Prop :=
  ∃ ao c, e = .returned (.slice ao l.length c) ∧ w'.ownsRow w.heap.size 25 1 (.slice ao l.length c) l.length (uV l) ∧ Below w.heap.size w w'
set_option maxRecDepth 100000 in
set_option maxHeartbeats 4000000 in
theorem rset_own (ao : Option Addr) (c : Nat) (l : List Int) (w : World) (h : WordsAt w w.heap.size ao l) (hn : l.length ≤ 1000000000) :
    Calls Tryz.prog 21 #[.slice ao l.length c] w (JoinedO w (setF l)) := by
  obtain ⟨i0, hi, hz0, hz1, hz2⟩ := info_parts info_u
  have hsz1 : (Tryz.prog.info? 25).map (·.size) = some 1 := by kernel_rfl
  obtain ⟨n, hnn⟩ : ∃ n, l.length = n := ⟨_, rfl⟩
  have HN := Lib.hid hnn
  have HW := Lib.hid h
  rw [hnn] at hn ⊢
  clear hnn h
  go_enter Tryz.func21, Tryz.ntmps21
  go_wp2
  go_loopw [3, 4] (fun v i wr => ∃ (k m : Nat), k ≤ n ∧ m ≤ k ∧ i = .int .i64 k ∧ Hid ((setF (l.take k)).length = m) ∧ wr.ownsRow w.heap.size 25 1 v m (uV (setF (l.take k))) ∧ Below w.heap.size w wr) (fun _ i _ => n - (intOf i).toNat)
  case atStart => exact ⟨0, 0, Nat.zero_le _, Nat.le_refl _, rfl, by show _ = _; rw [List.take_zero, setF_nil]; rfl, by rw [List.take_zero, setF_nil]; exact World.ownsRow_nil _ _ _ _, Below.refl _ _⟩
  case round =>
    obtain ⟨k, m, hk, hm, rfl, HM0, hown, hnx⟩ := hrel
    have hsz := hnx.size
    obtain ⟨s, hs⟩ : ∃ s, setF (l.take k) = s := ⟨_, rfl⟩
    have HM : Hid (s.length = m) := by show _ = _; rw [← hs]; exact HM0.out
    rw [hs] at hown
    have HUP : Hid (Rising s) := by show Rising s; rw [← hs]; exact (setF_up _).rising
    have HS := Lib.hid hs
    clear hs HM0
    obtain ⟨vo, vc, rfl, _, _⟩ := own_form hown
    have HWD := Lib.hid (words_own HM.out.symm hown)
    have HOWN := Lib.hid hown
    have HNX := Lib.hid hnx
    by_cases hlt : k < n
    · obtain ⟨b, off, rfl, hb, hc⟩ := (HW.out.below hnx (Nat.le_refl _)) (by rw [HN.out]; omega)
      have c0 := hc k (by rw [HN.out]; exact hlt)
      obtain ⟨x, hx⟩ : ∃ x, l.getD k 0 = x := ⟨_, rfl⟩
      rw [hx] at c0
      have HX := Lib.hid hx
      have hbw : b < wr.heap.size := by omega
      have KEEP : Hid (∀ X : World, X.heap = wr.heap → X.cell? ⟨b, off + k, none⟩ = some (.int .u64 x) ∧ b < X.heap.size ∧ WordsAt X X.heap.size vo s ∧ X.ownsRow w.heap.size 25 1 (.slice vo m vc) m (uV s)) := fun X hX => by
        refine ⟨?_, by rw [hX]; exact hbw, ?_, own_heap hX HOWN.out⟩
        · rw [cell_heap hX]; exact c0
        · have := words_heap hX HWD.out
          rwa [← hX] at this
      clear hc hx hown hnx c0 hbw HWD hsz
      obtain ⟨wo, hwo⟩ : ∃ wo : World, wo = wr := ⟨_, rfl⟩
      subst hwo
      go_wp2
      go_loopw [5, 6] (fun i j wr => ∃ lo hi : Nat, lo ≤ hi ∧ hi ≤ m ∧ i = .int .i64 lo ∧ j = .int .i64 hi ∧ Hid ((∀ k, k < lo → s.getD k 0 < x) ∧ ∀ k, hi ≤ k → k < m → x ≤ s.getD k 0) ∧ Hid (wr.heap = wo.heap) ∧ Below w.heap.size w wr) (fun i j _ => (intOf j).toNat - (intOf i).toNat)
      case atStart => exact ⟨0, m, Nat.zero_le _, Nat.le_refl _, rfl, rfl, ⟨fun k hk => by omega, fun k h1 h2 => by omega⟩, rfl, HNX.out⟩
      case round =>
        obtain ⟨lo, hi', h1, h2, rfl, rfl, HA, HH, hbx⟩ := hrel
        obtain ⟨c0, hbw, hwd, hown⟩ := KEEP.out wr HH.out
        have HWD := Lib.hid hwd
        have HOWN := Lib.hid hown
        have HBX := Lib.hid hbx
        have hsz := hbx.size
        clear hwd hown hbx
        by_cases hlt2 : lo < hi'
        · obtain ⟨g1, off1, rfl, hg1, hc1⟩ := HWD.out (by rw [HM.out]; omega)
          obtain ⟨t, ht⟩ : ∃ t, (lo + hi') / 2 = t := ⟨_, rfl⟩
          have hm1 : lo ≤ t := by omega
          have hm2 : t < hi' := by omega
          have hmI : ((lo : Int) + (hi' : Int)) / 2 = (t : Int) := by omega
          have c1 := hc1 t (by rw [HM.out]; omega)
          have HL1 : Hid (s.getD t 0 < x → ∀ k, k < t + 1 → s.getD k 0 < x) := fun e k hk => by
            have := HUP.out k t (by omega) (by rw [HM.out]; omega)
            omega
          have HL2 : Hid (¬ s.getD t 0 < x → ∀ k, t ≤ k → k < m → x ≤ s.getD k 0) := fun e k h3 h4 => by
            have := HUP.out t k h3 (by rw [HM.out]; exact h4)
            omega
          generalize s.getD t 0 = y at c1 HL1 HL2
          clear hc1 ht
          by_cases hyx : y < x
          · have HLL := Lib.hid (HL1.out hyx)
            clear HL1 HL2
            go_wp2_with (first | (with_reducible refine wp_region_lex (by kernel_rfl) (by kernel_rfl) ?_) | (with_reducible refine OnlyG.intro (by kernel_rfl) ?_))
            go_roundw
            case rel => exact ⟨t + 1, hi', by omega, h2, by go_num, rfl, ⟨HLL.out, HA.out.2⟩, HH.out, HBX.out.drew⟩
            case measure => simp [intOf]; omega
          · have HLL := Lib.hid (HL2.out hyx)
            clear HL1 HL2
            go_wp2_with (first | (with_reducible refine wp_region_lex (by kernel_rfl) (by kernel_rfl) ?_) | (with_reducible refine OnlyG.intro (by kernel_rfl) ?_))
            go_roundw
            case rel => exact ⟨lo, t, by omega, by omega, rfl, by go_num, ⟨HA.out.1, HLL.out⟩, HH.out, HBX.out.drew⟩
            case measure => simp [intOf]; omega
        · obtain rfl : lo = hi' := by omega
          by_cases hin : lo < m ∧ s.getD lo 0 = x
          · obtain ⟨g1, off1, rfl, hg1, hc1⟩ := HWD.out (by rw [HM.out]; omega)
            have c1 := hc1 lo (by rw [HM.out]; exact hin.1)
            obtain ⟨y, hy⟩ : ∃ y, s.getD lo 0 = y := ⟨_, rfl⟩
            have q1 : (y == x) = true := by rw [← hy]; simpa using hin.2
            rw [hy] at c1
            have HOLD : Hid (setF (l.take (k + 1)) = s) := by
              show _ = _
              rw [setF_old (by rw [HN.out]; exact hlt) (by rw [HS.out, HX.out, ← hin.2]; exact getD_mem (by rw [HM.out]; exact hin.1)), HS.out]
            have q0 : decide (lo < m) = true := by simpa using hin.1
            have hlm := hin.1
            clear hc1 hin hy
            go_wp2_with (first | (with_reducible refine wp_region_lex (by kernel_rfl) (by kernel_rfl) ?_) | (with_reducible refine OnlyG.intro (by kernel_rfl) ?_))
            go_roundw
            case rel => exact ⟨k + 1, m, by omega, by omega, by go_num, by show _ = _; rw [HOLD.out]; exact HM.out, by rw [HOLD.out]; exact HOWN.out, HBX.out.drew⟩
            case measure => simp [intOf]; omega
          · have HPUT : Hid (setF (l.take (k + 1)) = s.take lo ++ x :: s.drop lo) := by
              show _ = _
              rw [setF_put (by rw [HN.out]; exact hlt) HS.out (lo := lo) (by rw [HX.out]; exact HA.out.1) (by
                rw [HX.out]
                intro j h3 h4
                rw [HM.out] at h4
                have e1 := HA.out.2 j h3 h4
                have e2 := HUP.out lo j h3 (by rw [HM.out]; exact h4)
                have e3 := HA.out.2 lo (Nat.le_refl _) (by omega)
                by_cases e4 : s.getD lo 0 = x
                · exact absurd ⟨by omega, e4⟩ hin
                · omega), HX.out]
            have key : decide (lo < m) = false ∨ (lo < m ∧ decide (lo < m) = true ∧ ∃ g1 off1 y, vo = some ⟨g1, off1, none⟩ ∧ g1 < wr.heap.size ∧ wr.cell? ⟨g1, off1 + lo, none⟩ = some (.int .u64 y) ∧ (y == x) = false) := by
              by_cases e : lo < m
              · refine .inr ⟨e, by simpa using e, ?_⟩
                obtain ⟨g1, off1, rfl, hg1, hc1⟩ := HWD.out (by rw [HM.out]; omega)
                exact ⟨g1, off1, _, rfl, hg1, hc1 lo (by rw [HM.out]; exact e), by simpa using fun h => hin ⟨e, h⟩⟩
              · exact .inl (by simpa using e)
            clear hin hlt2
            rcases key with q0 | ⟨hlm, q0, g1, off1, y, rfl, hg1, c1, q1⟩
            all_goals
              have hown := HOWN.out
              go_upto_region 13 with (first | (with_reducible refine wp_region_lex (by kernel_rfl) (by kernel_rfl) ?_) | (with_reducible refine OnlyG.intro (by kernel_rfl) ?_) | (at_builtin; refine wpList_append_own _ rfl (.tmp 50) (.tmp 51) 22 rfl w.heap.size 25 i0 (.int .u64 0) 1 8 Tryz.underlying22 hi hz0 hz1 hz2 rfl (by decide) _ _ _ rfl (hown.alloc _) ⟨wr.heap.size, 0, none⟩ 1 1 [.int .u64 0] rfl rfl (cells_new _ _ _ _ rfl) (by simp [Value.oneCell']) (by unfold maxLen; omega) (by omega) (by simp; omega) ?_; intro v' w3 hown1 hgrow _))
              have hbel : Below w.heap.size w w3 := below_append (HBX.out.drew.alloc hsz _) (hown.alloc _) (by simp; omega) hgrow
              rcases hown1.2 with ⟨_, h0⟩ | ⟨g, cap, ⟨cur⟩, rfl, hbg, hheap, hcap, hmax, hcsz, htake⟩
              · omega
              obtain ⟨e, he⟩ : ∃ e, s.drop lo = e := ⟨_, rfl⟩
              have hdl : (uV e).length = m - lo := by rw [uV_len, ← he, List.length_drop, HM.out]
              have hmin : (uV e).length = Nat.min (m + 1 - lo) (m - lo) := by rw [hdl]; show _ = min _ _; omega
              have hfit : lo + 1 + (uV e).length ≤ cur.length := by rw [hdl]; have : cur.length = cap := by simpa using hcsz
                                                                    omega
              have HPOS : Hid (0 < (uV e).length → (if cap = lo + 1 then some (⟨g, 0, none⟩ : Addr) else some ⟨g, lo + 1, none⟩) = some ⟨g, lo + 1, none⟩ ∧ ∃ ad, some (⟨g, lo, none⟩ : Addr) = some ad ∧ ∀ j v, (uV e)[j]? = some v → w3.drew.cell? (ad.add j) = some v) := fun h0 => by
                refine ⟨by rw [if_neg (by omega)], _, rfl, fun j v hj => ?_⟩
                have hj' : j < (uV e).length := (List.getElem?_eq_some_iff.1 hj).1
                have hadd : (⟨g, lo, none⟩ : Addr).add j = ⟨g, lo + j, none⟩ := by unfold Addr.add; split <;> simp_all
                rw [hadd, cell_heap (X := w3.drew) (w := w3) rfl, hown1.cellAt (lo + j) (by omega), List.getElem?_append_left (by rw [uV_len, HM.out]; omega), ← hj, ← he]
                simp [uV]
              have HTK : Hid (cur.take (m + 1) = uV s ++ [.int .u64 0]) := by show _ = _; rw [← htake, Nat.mul_one]
              have HCL : Hid (cur.length = cap) := by show _ = _; simpa using hcsz
              have HDE := Lib.hid he
              have hheap' : w3.drew.heap[g]? = some (.cells cur.toArray 25 (0, 0)) := hheap
              have hbel' := hbel.drew
              have hw1 : IntKind.i64.wrap ((lo : Int) + 1) = (lo : Int) + 1 := IntWalk.i64_in _ (by omega)
              have hb1 : (lo : Int) + 1 ≤ (m : Int) + 1 := by omega
              have hb2 : (lo : Int) ≤ (m : Int) + 1 := by omega
              have hb0 : (0 : Int) ≤ (lo : Int) + 1 := by omega
              have hne : ¬ cap = lo := by omega
              clear htake hcsz hown1 hgrow hown he hdl
              go_region_law (refine step_copy_splice rfl (.tmp 56) (.tmp 59) 22 22 rfl 25 Tryz.underlying22 hsz1 (if cap = lo + 1 then some (⟨g, 0, none⟩ : Addr) else some ⟨g, lo + 1, none⟩) (some ⟨g, lo, none⟩) (m - lo) (cap - (lo + 1)) (m + 1 - lo) (cap - lo) (by simp [Act.eval, Act.put]) (by simp [Act.eval, Act.put]) g (lo + 1) cur 25 hheap' (uV e) hmin HPOS.out hfit (uV_cell _) w.heap.size w hbel' hbg ?_; intro w4 HG4 hb4)
              have hput := HG4.out
              have c4 : w4.cell? ⟨b, off + k, none⟩ = some (.int .u64 x) := (hb4.cell (p := ⟨b, off + k, none⟩) hb).trans ((HBX.out.cell (p := ⟨b, off + k, none⟩) hb).symm.trans c0)
              have hbw4 : b < w4.heap.size := by have := hb4.size; omega
              have hg4 : g < w4.heap.size := (Array.getElem?_eq_some_iff.1 hput).1
              have hsl : lo < (splice cur (lo + 1) (uV e)).length := by rw [length_splice _ _ _ hfit, HCL.out]; omega
              have c5 : w4.cell? ⟨g, lo, none⟩ = some (splice cur (lo + 1) (uV e))[lo] := by
                rw [cell_of_row _ _ _ _ _ _ hput, List.getElem?_toArray, List.getElem?_eq_getElem hsl]
              have hf5 : w4.frozen? ⟨g, lo, none⟩ = false := by simp [World.frozen?, hput]
              have HG5 := Lib.hid (hput)
              generalize (splice cur (lo + 1) (uV e))[lo] = y5 at c5
              have HB5 : Hid (Below w.heap.size w (w4.setCell ⟨g, lo, none⟩ (.int .u64 x))) := hb4.setCell hbg _
              have HOWN5 : Hid ((w4.setCell ⟨g, lo, none⟩ (.int .u64 x)).ownsRow w.heap.size 25 1 (.slice (some ⟨g, 0, none⟩) (m + 1) cap) (m + 1) (uV (setF (l.take (k + 1))))) := by
                have hh : w4.heap[g]? = some (.cells (splice cur (lo + 1) (uV (s.drop lo))).toArray 25 (0, 0)) := by rw [HDE.out]; exact hput
                have := own_put (x := x) hbg HM.out h2 hcap hmax HCL.out HTK.out hh
                rw [← HPUT.out] at this
                exact this
              have HLEN : Hid ((setF (l.take (k + 1))).length = m + 1) := by
                show _ = _
                rw [HPUT.out, List.length_append, List.length_cons, List.length_take, List.length_drop, HM.out]
                omega
              clear hput hb4 hsl hheap hheap' hbel hbel' hfit hmin
              go_wp2_with (first | (with_reducible refine wp_region_lex (by kernel_rfl) (by kernel_rfl) ?_) | (with_reducible refine OnlyG.intro (by kernel_rfl) ?_))
              go_roundw
              case rel => exact ⟨k + 1, m + 1, by omega, by omega, by go_num, HLEN.out, HOWN5.out, HB5.out⟩
              case measure => simp [intOf]; omega
    · obtain rfl : k = n := by omega
      have HT : Hid (s = setF l) := by show _ = _; rw [← HS.out, ← HN.out, List.take_length]
      have hwd := words_own HM.out.symm hown
      have hJ : Hid (JoinedO w (setF l) (.returned (.slice vo m vc)) wr) := ⟨vo, vc, by rw [← HT.out, HM.out], by rw [← HT.out, HM.out]; exact hown, hnx⟩
      clear hwd hown hnx
      go_wp2
      go_ret
      exact hJ.out
end Go.Proofs.YtkjfdaleamonaaaGreat
/- Plain laws of packing: what packed cells cover; they are free; no seven brothers; how many they are. -/
namespace Go.Proofs.YtkjfdaleamonaaaGreat
open Go.RowKit Go.Lib Wd

theorem kid_of {r : Nat} {y : E2} (hy : okB (r + 1 : Nat) y = true) : (wordN (r + 1) y : Int) ∈ kidsW r (wordN r (upE y)) := by
  have hr : r + 1 ≤ 12 := (okB_parts hy).1
  obtain ⟨-, p, hp, e, hk⟩ := word_parts (r := r) ⟨y, hy, rfl⟩
  obtain ⟨d, hd, e2⟩ := (kidsW_mem hr _).1 hk
  have e3 : y = downE p d := (word_inj hy (kid_ok hp hr hd) (by omega)).2
  rw [e3, upE_down p hd, ← e3]
  exact hk
theorem pack_cov : ∀ (r : Nat) (A : List Int), Sized r A → ∀ y, okB r y = true → ((∃ k, k ≤ r ∧ (wordN k (upN (r - k) y) : Int) ∈ packN r A) ↔ (wordN r y : Int) ∈ A)
  | 0, A, _, y, hy => by
    constructor
    · rintro ⟨k, hk, hm⟩
      obtain rfl : k = 0 := by omega
      exact hm
    · intro h; exact ⟨0, Nat.le_refl _, h⟩
  | r + 1, A, hs, y, hy => by
    have hr : r + 1 ≤ 12 := (okB_parts hy).1
    have hu := up_ok hy
    have hn := next_sized hs
    have ih := pack_cov r (nextL A) hn (upE y) hu
    have hkid := kid_of hy
    have hfull : fullB A (wordN (r + 1) y : Int) = true ↔ (wordN r (upE y) : Int) ∈ nextL A := by
      rw [full_iff hr hu hkid, next_mem hr hs]
      constructor
      · intro h; exact ⟨_, hu, rfl, h⟩
      · rintro ⟨p, hp, e, h⟩
        have e3 : upE y = p := (word_inj hu hp (by omega)).2
        rw [e3]; exact h
    show (∃ k, k ≤ r + 1 ∧ _ ∈ doneL A ++ packN r (nextL A)) ↔ _
    constructor
    · rintro ⟨k, hk, hm⟩
      rcases List.mem_append.1 hm with h1 | h1
      · have h2 := (List.mem_filter.1 h1).1
        have ho : okB k (upN (r + 1 - k) y) = true := upN_ok _ (by rw [show k + (r + 1 - k) = r + 1 by omega]; exact hy)
        obtain rfl : k = r + 1 := sized_unlike ⟨_, ho, rfl⟩ (hs _ h2)
        rw [Nat.sub_self] at h2
        exact h2
      · have ho : okB k (upN (r + 1 - k) y) = true := upN_ok _ (by rw [show k + (r + 1 - k) = r + 1 by omega]; exact hy)
        obtain ⟨k', hk', hz⟩ := packN_sized r _ hn _ h1
        obtain rfl : k = k' := sized_unlike ⟨_, ho, rfl⟩ hz
        rw [show r + 1 - k = (r - k) + 1 by omega, ← upN_one] at h1
        have h2 := hfull.2 (ih.1 ⟨k, hk', h1⟩)
        exact (full_iff hr hu hkid).1 h2 _ hkid
    · intro hA
      by_cases hf : fullB A (wordN (r + 1) y : Int) = true
      · obtain ⟨k, hk, h1⟩ := ih.2 (hfull.1 hf)
        refine ⟨k, by omega, List.mem_append.2 (.inr ?_)⟩
        rw [show r + 1 - k = (r - k) + 1 by omega, ← upN_one]
        exact h1
      · refine ⟨r + 1, Nat.le_refl _, List.mem_append.2 (.inl (List.mem_filter.2 ⟨?_, ?_⟩))⟩
        · rw [Nat.sub_self]; exact hA
        · rw [Nat.sub_self]
          show (!fullB A (wordN (r + 1) y : Int)) = true
          rw [Bool.eq_false_iff.2 hf]; rfl
theorem base_anc {A : List Int} (hs : Sized 0 A) {k : Nat} {x : E2} {j : Nat} (hx : okB k x = true) (hj : j < k) (h1 : (wordN k x : Int) ∈ A) : False := by
  have h2 : k = 0 := sized_unlike ⟨x, hx, rfl⟩ (hs _ h1)
  omega
theorem pack_anc (r : Nat) : ∀ (A : List Int), Sized r A → ∀ (k : Nat) (x : E2) (j : Nat), okB k x = true → j < k → (wordN k x : Int) ∈ packN r A → (wordN j (upN (k - j) x) : Int) ∈ packN r A → False := by
  induction r with
  | zero =>
    intro A hs k x j hx hj h1 _
    exact base_anc hs hx hj h1
  | succ r ih =>
    intro A hs k x j hx hj h1 h2
    have hn := next_sized hs
    have hk12 := (okB_parts hx).1
    have hoj : okB j (upN (k - j) x) = true := upN_ok _ (by rw [show j + (k - j) = k by omega]; exact hx)
    rcases List.mem_append.1 h1 with h3 | h3
    · have h4 := List.mem_filter.1 h3
      obtain rfl : k = r + 1 := sized_unlike ⟨_, hx, rfl⟩ (hs _ h4.1)
      rcases List.mem_append.1 h2 with h5 | h5
      · have := sized_unlike ⟨_, hoj, rfl⟩ (hs _ (List.mem_filter.1 h5).1)
        omega
      · have hu := up_ok hx
        rw [show r + 1 - j = (r - j) + 1 by omega, ← upN_one] at h5
        have h6 := (pack_cov r (nextL A) hn (upE x) hu).1 ⟨j, by omega, h5⟩
        obtain ⟨p, hp, e, h7⟩ := (next_mem hk12 hs _).1 h6
        have e3 : upE x = p := (word_inj hu hp (by omega)).2
        have h8 := (full_iff hk12 hu (kid_of hx)).2 (by rw [e3]; exact h7)
        rw [h8] at h4
        exact absurd h4.2 (by simp)
    · obtain ⟨k', hk', hz⟩ := packN_sized r _ hn _ h3
      obtain rfl : k = k' := sized_unlike ⟨_, hx, rfl⟩ hz
      rcases List.mem_append.1 h2 with h5 | h5
      · have := sized_unlike ⟨_, hoj, rfl⟩ (hs _ (List.mem_filter.1 h5).1)
        omega
      · exact ih (nextL A) hn k x j hx hj h3 h5
theorem pack_bro (r : Nat) : ∀ (A : List Int), Sized r A → ∀ (q : Nat) (z : E2), q + 1 ≤ 12 → okB q z = true → ¬ ∀ u ∈ kidsW q (wordN q z), u ∈ packN r A := by
  induction r with
  | zero =>
    intro A hs q z hq hz hall
    exact base_anc (k := q + 1) (j := 0) hs (kid_ok hz hq (show 0 < 7 by omega)) (by omega) (hall (wordN (q + 1) (downE z 0) : Int) ((kidsW_mem hq _).2 ⟨0, by omega, rfl⟩))
  | succ r ih =>
    intro A hs q z hq hz hall
    have hn := next_sized hs
    by_cases e : q + 1 = r + 1
    · obtain rfl : q = r := by omega
      have hd : ∀ u ∈ kidsW q (wordN q z), u ∈ doneL A := fun u hu => by
        obtain ⟨d, hd, rfl⟩ := (kidsW_mem hq _).1 hu
        rcases List.mem_append.1 (hall _ hu) with h | h
        · exact h
        · obtain ⟨k', hk', hz'⟩ := packN_sized q _ hn _ h
          have := sized_unlike ⟨_, kid_ok hz hq hd, rfl⟩ hz'
          omega
      have h0 : (wordN (q + 1) (downE z 0) : Int) ∈ kidsW q (wordN q z) := (kidsW_mem hq _).2 ⟨0, by omega, rfl⟩
      have h1 := List.mem_filter.1 (hd _ h0)
      have h2 := (full_iff hq hz h0).2 fun u hu => (List.mem_filter.1 (hd u hu)).1
      rw [h2] at h1
      exact absurd h1.2 (by simp)
    · refine ih (nextL A) hn q z hq hz fun u hu => ?_
      rcases List.mem_append.1 (hall _ hu) with h | h
      · obtain ⟨d, hd, rfl⟩ := (kidsW_mem hq _).1 hu
        have := sized_unlike ⟨_, kid_ok hz hq hd, rfl⟩ (hs _ (List.mem_filter.1 h).1)
        omega
      · exact h
end Go.Proofs.YtkjfdaleamonaaaGreat
/- Plain laws on packF: covers, free, how many, spread. -/
namespace Go.Proofs.YtkjfdaleamonaaaGreat
open Go.RowKit Go.Lib Wd

theorem dsV_word' {R k : Nat} {z : E2} (hz : okB k z = true) : dsV R (wordN k z : Int) = dsN (R - k) k z := by
  obtain ⟨a, b, c⟩ := word_cell hz
  unfold dsV
  rw [Int.toNat_natCast, b, c]

theorem cmp_pack {R : Nat} {l : List Int} (hs : Sized R l) (hl : l.length ≤ 20000) : cmpE l = 0 ∧ cmpL l = packF R l := by
  obtain ⟨g1, g2, g3⟩ := sized_cmp hs hl
  refine ⟨g1, ?_⟩
  by_cases h : l = []
  · rw [g3 h, h]
    unfold packF
    rw [setF_nil, packN_nil, setF_nil]
  · exact g2 h
theorem pk_sized {R : Nat} {l : List Int} (hs : Sized R l) {v : Int} (hv : v ∈ packF R l) : ∃ k : Nat, k ≤ R ∧ ∃ z, okB k z = true ∧ v = (wordN k z : Int) :=
  packN_sized R (setF l) (sized_set hs) v ((setF_mem _ _).1 hv)
theorem pk_cov {R : Nat} {l : List Int} (hs : Sized R l) {y : E2} (hy : okB R y = true) : (∃ v ∈ packF R l, (wordN R y : Int) ∈ dsV R v) ↔ (wordN R y : Int) ∈ l := by
  have hR := (okB_parts hy).1
  rw [← setF_mem l, ← pack_cov R (setF l) (sized_set hs) y hy]
  constructor
  · rintro ⟨v, hv, hm⟩
    obtain ⟨k, hk, x, hx, rfl⟩ := pk_sized hs hv
    rw [dsV_word' hx] at hm
    obtain ⟨y', hy', hu, e⟩ := (ds_mem (R - k) k x (by omega) hx _).1 hm
    have e3 : y = y' := (word_inj hy hy' (by rw [show k + (R - k) = R by omega] at e ⊢; omega)).2
    rw [← e3] at hu
    refine ⟨k, hk, ?_⟩
    rw [hu]
    exact (setF_mem _ _).1 hv
  · rintro ⟨k, hk, hm⟩
    have ho : okB k (upN (R - k) y) = true := upN_ok _ (by rw [show k + (R - k) = R by omega]; exact hy)
    refine ⟨_, (setF_mem _ _).2 hm, ?_⟩
    rw [dsV_word' ho]
    refine (ds_mem (R - k) k _ (by omega) ho _).2 ⟨y, by rw [show k + (R - k) = R by omega]; exact hy, rfl, by rw [show k + (R - k) = R by omega]⟩
theorem pk_free {R : Nat} {l : List Int} (hs : Sized R l) : freeB (packF R l) = true := by
  unfold freeB
  have hw : allW (packF R l) = true := List.all_eq_true.2 fun v hv => by
    obtain ⟨k, -, z, hz, rfl⟩ := pk_sized hs hv
    exact (word_cell hz).1
  rw [hw, decide_eq_true (show (packF R l).Nodup from (setF_up _).nodup)]
  simp only [Bool.true_and]
  rw [List.all_eq_true]
  intro v hv
  rw [List.all_eq_true]
  intro j hj
  have hj := List.mem_range.1 hj
  obtain ⟨k, hk, z, hz, rfl⟩ := pk_sized hs hv
  obtain ⟨a, b, c⟩ := word_cell hz
  rw [Int.toNat_natCast, b] at hj
  have : ancW (wordN k z : Int) j ∉ packF R l := fun hm => by
    unfold ancW at hm
    rw [Int.toNat_natCast, b, c] at hm
    exact pack_anc R (setF l) (sized_set hs) k z j hz hj ((setF_mem _ _).1 hv) ((setF_mem _ _).1 hm)
  simpa using this
theorem pk_apart {R : Nat} {l : List Int} (hs : Sized R l) (hR : R ≤ 12) {v u : Int} (hv : v ∈ packF R l) (hu : u ∈ packF R l) (hne : v ≠ u) {t : Int} (h1 : t ∈ dsV R v) (h2 : t ∈ dsV R u) : False := by
  obtain ⟨k, hk, x, hx, rfl⟩ := pk_sized hs hv
  obtain ⟨j, hj, y, hy, rfl⟩ := pk_sized hs hu
  rw [dsV_word' hx] at h1
  rw [dsV_word' hy] at h2
  obtain ⟨a, ha, ea, e1⟩ := (ds_mem (R - k) k x (by omega) hx _).1 h1
  obtain ⟨b, hb, eb, e2⟩ := (ds_mem (R - j) j y (by omega) hy _).1 h2
  rw [show k + (R - k) = R by omega] at ha e1
  rw [show j + (R - j) = R by omega] at hb e2
  have e3 : a = b := (word_inj ha hb (by omega)).2
  rw [← e3] at eb
  have key : ∀ (p q : Nat) (s t : E2), p < q → q ≤ R → okB q t = true → upN (R - p) a = s → upN (R - q) a = t → (wordN p s : Int) ∈ packF R l → (wordN q t : Int) ∈ packF R l → False := fun p q s t hpq hqR ht es et m1 m2 => by
    refine pack_anc R (setF l) (sized_set hs) q t p ht hpq ((setF_mem _ _).1 m2) ?_
    rw [← et, upN_add, show (R - q) + (q - p) = R - p by omega, es]
    exact (setF_mem _ _).1 m1
  rcases Nat.lt_trichotomy k j with h | h | h
  · exact key k j x y h hj hy ea eb hv hu
  · subst h
    exact hne (by rw [← ea, ← eb])
  · exact key j k y x h hk hx eb ea hu hv
theorem flat_len (R : Nat) : ∀ l : List Int, (l.flatMap (dsV R)).length = sumS R l
  | [] => rfl
  | v :: l => by
    rw [List.flatMap_cons, List.length_append, flat_len R l]
    unfold dsV
    rw [ds_len]; rfl
theorem len_perm {a b : List Int} (ha : a.Nodup) (hb : b.Nodup) (h : ∀ x, x ∈ a ↔ x ∈ b) : a.length = b.length := by
  refine List.Perm.length_eq (List.perm_iff_count.2 fun x => ?_)
  rw [ha.count, hb.count]
  simp only [h]
theorem pk_mem {R : Nat} {l : List Int} (hs : Sized R l) (hR : R ≤ 12) (t : Int) : t ∈ (packF R l).flatMap (dsV R) ↔ t ∈ l := by
  rw [List.mem_flatMap]
  constructor
  · rintro ⟨v, hv, ht⟩
    obtain ⟨k, hk, x, hx, rfl⟩ := pk_sized hs hv
    have ht2 := ht
    rw [dsV_word' hx] at ht2
    obtain ⟨a, ha, -, e1⟩ := (ds_mem (R - k) k x (by omega) hx _).1 ht2
    rw [show k + (R - k) = R by omega] at ha e1
    subst e1
    exact (pk_cov hs ha).1 ⟨_, hv, ht⟩
  · intro ht
    obtain ⟨y, hy, rfl⟩ := hs t ht
    exact (pk_cov hs hy).2 ht
theorem pk_sum {R : Nat} {l : List Int} (hs : Sized R l) (hR : R ≤ 12) : sumS R (packF R l) = (setF l).length := by
  rw [← flat_len]
  refine len_perm ?_ (setF_up l).nodup fun t => by rw [pk_mem hs hR, setF_mem]
  refine List.nodup_iff_pairwise_ne.2 (List.pairwise_flatMap.2 ⟨fun v hv => ?_, ?_⟩)
  · obtain ⟨k, hk, x, hx, rfl⟩ := pk_sized hs hv
    rw [dsV_word' hx]
    exact List.nodup_iff_pairwise_ne.1 (ds_up (R - k) k x (by omega) hx).nodup
  · refine (List.nodup_iff_pairwise_ne.1 (setF_up (packN R (setF l))).nodup).imp_of_mem fun {a b} ha hb hab x hx y hy e => ?_
    subst e
    exact pk_apart hs hR ha hb hab hx hy
theorem pk_sz {R : Nat} {l m : List Int} (hR : R ≤ 12) (hv : ∀ v ∈ m, ∃ k : Nat, k ≤ R ∧ ∃ z, okB k z = true ∧ v = (wordN k z : Int)) (hs : sumS R m ≤ 20000) : szE m R = 0 ∧ szN m R = (sumS R m : Int) ∧ sprE m R = 0 ∧ sprL m R = setF (m.flatMap (dsV R)) := by
  have ha : allW m = true := List.all_eq_true.2 fun v h => by
    obtain ⟨k, -, z, hz, rfl⟩ := hv v h
    exact (word_cell hz).1
  have hb : m.any (fun v => decide ((R : Int) < (rW v.toNat : Int))) = false := by
    rw [List.any_eq_false]
    intro v h
    obtain ⟨k, hk, z, hz, rfl⟩ := hv v h
    rw [Int.toNat_natCast, (word_cell hz).2.1, decide_eq_true_eq]
    omega
  obtain ⟨e1, e2⟩ := sz_ok ha hb hR (by omega)
  have e3 : sprE m R = 0 := by unfold sprE; rw [e1, if_pos rfl, Int.toNat_natCast, if_neg (by omega)]
  exact ⟨e1, e2, e3, by unfold sprL; rw [e3, if_pos rfl, Int.toNat_natCast]⟩
theorem pk_spread {R : Nat} {l : List Int} (hs : Sized R l) (hR : R ≤ 12) (hl : l.length ≤ 20000) : szE (packF R l) R = 0 ∧ szN (packF R l) R = ((setF l).length : Int) ∧ sprE (packF R l) R = 0 ∧ sprL (packF R l) R = setF l := by
  have h1 := setF_length l
  obtain ⟨e1, e2, e3, e4⟩ := pk_sz (l := l) hR (fun v hv => pk_sized hs hv) (by rw [pk_sum hs hR]; omega)
  rw [pk_sum hs hR] at e2
  refine ⟨e1, e2, e3, ?_⟩
  rw [e4]
  exact (setF_up _).ext (setF_up _) fun t => by rw [setF_mem, setF_mem, pk_mem hs hR]
end Go.Proofs.YtkjfdaleamonaaaGreat
/- Plain laws on packF: whether it covers a word; its length. (The same stand in PackCoversW, under a name of their own.) -/
namespace Go.Proofs.YtkjfdaleamonaaaGreat
open Go.RowKit Go.Lib Wd

theorem cov_pk {R : Nat} {l : List Int} (hs : Sized R l) {y : E2} (hy : okB R y = true) : covB (packF R l) (wordN R y) = decide ((wordN R y : Int) ∈ l) := by
  obtain ⟨a1, a2, a3⟩ := word_cell hy
  have hR := (okB_parts hy).1
  rw [Bool.eq_iff_iff, decide_eq_true_eq, ← pk_cov hs hy]
  unfold covB
  rw [a1, Bool.true_and, List.any_eq_true]
  have key : ∀ v ∈ packF R l, (wiB (wordN R y) v.toNat = true ↔ (wordN R y : Int) ∈ dsV R v) := fun v hv => by
    obtain ⟨k, hk, z, hz, rfl⟩ := pk_sized hs hv
    obtain ⟨b1, b2, b3⟩ := word_cell hz
    rw [dsV_word' hz, ds_mem (R - k) k z (by omega) hz, Int.toNat_natCast]
    unfold wiB
    rw [b1]
    unfold cvR cvZ winB
    rw [if_pos a1, if_pos a1, if_pos b1, if_pos b1, a2, a3, b2, b3, hy, hz, decide_eq_true (by omega), show ((R : Int) - (k : Int)).toNat = R - k by omega, show k + (R - k) = R by omega]
    simp only [Bool.true_and, decide_eq_true_eq]
    constructor
    · intro h; exact ⟨y, hy, h, rfl⟩
    · rintro ⟨y', hy', h, e⟩
      rw [(word_inj hy hy' (by omega)).2]; exact h
  constructor
  · rintro ⟨v, hv, h⟩; exact ⟨v, hv, (key v hv).1 h⟩
  · rintro ⟨v, hv, h⟩; exact ⟨v, hv, (key v hv).2 h⟩
theorem cov_0 (l : List Int) : covB l 0 = false := by unfold covB; rw [isW0]; rfl
theorem pk_64 {R : Nat} {l : List Int} (hs : Sized R l) : In64 (packF R l) := fun v hv => by
  obtain ⟨k, hk, z, hz, rfl⟩ := pk_sized hs hv
  have := (wordN_lt hz).1
  exact ⟨by omega, by omega⟩
theorem pk_len {R : Nat} {l : List Int} (hs : Sized R l) (hR : R ≤ 12) (hl : l.length ≤ 20000) : (packF R l).length ≤ 20000 := by
  have h1 := pk_sum hs hR
  have h2 := setF_length l
  have h3 : ∀ (R : Nat) (m : List Int), m.length ≤ sumS R m := fun R m => by
    induction m with
    | nil => exact Nat.le_refl _
    | cons v m ih =>
      show m.length + 1 ≤ 7 ^ (R - rW v.toNat) + sumS R m
      have : 0 < 7 ^ (R - rW v.toNat) := Nat.pow_pos (by decide)
      omega
  have := h3 R (packF R l)
  omega
theorem pk_mem_eq {R : Nat} {l m : List Int} (h : ∀ x, x ∈ l ↔ x ∈ m) : packF R l = packF R m := by
  have e : setF l = setF m := (setF_up l).ext (setF_up m) fun x => by rw [setF_mem, setF_mem, h]
  unfold packF
  rw [e]
end Go.Proofs.YtkjfdaleamonaaaGreat
/- Contract of apiaryref1.Spread. -/
namespace Go.Proofs.YtkjfdaleamonaaaGreat
open Go.RowKit Go.Lib Wd

def kidV (v : Int) : List Int := dsN 1 (rW v.toNat) (zW v.toNat)
theorem kidV_word {k : Nat} {z : E2} (hz : okB k z = true) : kidV (wordN k z : Int) = dsN 1 k z := by
  obtain ⟨a, b, c⟩ := word_cell hz
  unfold kidV
  rw [Int.toNat_natCast, b, c]
theorem flatMap_on {α β : Type} {f g : α → List β} : ∀ {l : List α}, (∀ a ∈ l, f a = g a) → l.flatMap f = l.flatMap g
  | [], _ => rfl
  | a :: l, h => by rw [List.flatMap_cons, List.flatMap_cons, h a (by simp), flatMap_on fun b hb => h b (by simp [hb])]
theorem ds_succ : ∀ (d k : Nat) {z : E2}, k + d + 1 ≤ 12 → okB k z = true → dsN (d + 1) k z = (dsN d k z).flatMap kidV
  | 0, k, z, _, hz => by
    show dsN 1 k z = [(wordN k z : Int)].flatMap kidV
    rw [List.flatMap_cons, List.flatMap_nil, List.append_nil, kidV_word hz]
  | d + 1, k, z, hk, hz => by
    show (List.range 7).flatMap (fun i => dsN (d + 1) (k + 1) (downE z i)) = ((List.range 7).flatMap fun i => dsN d (k + 1) (downE z i)).flatMap kidV
    rw [List.flatMap_assoc]
    refine flatMap_on fun i hi => ?_
    exact ds_succ d (k + 1) (by omega) (kid_ok hz (by omega) (List.mem_range.1 hi))
theorem flat_snoc (f : Int → List Int) (l : List Int) {k : Nat} (hk : k < l.length) : (l.take (k + 1)).flatMap f = (l.take k).flatMap f ++ f (l.getD k 0) := by
  rw [take_w l hk, List.flatMap_append, List.flatMap_cons, List.flatMap_nil, List.append_nil]
theorem dsV_word {R k : Nat} {z : E2} (hz : okB k z = true) : dsV R (wordN k z : Int) = dsN (R - k) k z := by
  obtain ⟨a, b, c⟩ := word_cell hz
  unfold dsV
  rw [Int.toNat_natCast, b, c]
theorem word_of {v : Int} (h0 : 0 ≤ v) (h : isW v.toNat = true) : ∃ z, okB (rW v.toNat) z = true ∧ v = (wordN (rW v.toNat) z : Int) := by
  obtain ⟨a, b⟩ := cell_word h
  exact ⟨zW v.toNat, a, by omega⟩
set_option maxRecDepth 100000 in
set_option maxHeartbeats 16000000 in
theorem rspread_any (ao : Option Addr) (c : Nat) (l : List Int) (r : Int) (w : World) (B : Nat) (h : WordsAt w B ao l) (hB : B ≤ w.heap.size) (hn : l.length ≤ 1000000) (h64 : In64 l) :
    Calls Tryz.prog 37 #[.slice ao l.length c, .int .i64 r] w (ToldP w (sprL l r) (sprE l r)) := by
  obtain ⟨i0, hi, hz0, hz1, hz2⟩ := info_parts info_u
  have HNIL : Hid (∀ err w', Below w.heap.size w w' → sprE l r = err → err ≠ 0 → ToldP w (sprL l r) (sprE l r) (.returned (.tuple #[.slice none 0 0, .int .i64 err])) w') := fun err w' hb he h0 => by
    have : sprL l r = [] := by unfold sprL; rw [if_neg (by rw [he]; exact h0)]
    rw [this, he]
    exact ⟨none, 0, rfl, World.ownsRow_nil _ _ _ _, hb⟩
  have hsz := rsize_any ao c l r w B h hB hn h64
  obtain ⟨n, hnn⟩ : ∃ n, l.length = n := ⟨_, rfl⟩
  have HN := Lib.hid hnn
  have HW := Lib.hid h
  rw [hnn] at hn hsz ⊢
  by_cases hE : szE l r = 0
  · obtain ⟨R, rfl, hR, ha, hrs, hN⟩ := szE_zero hE
    rw [hE, hN] at hsz
    by_cases hbig : 20000 < sumS R l
    · have HF := Lib.hid (HNIL.out 7 · · (by unfold sprE; rw [if_pos hE, Int.toNat_natCast, if_pos hbig]) (by decide))
      generalize sumS R l = S at *
      have q1 : decide (20000 < (S : Int)) = true := decide_eq_true (by omega)
      have q1n : decide (20000 < S) = true := decide_eq_true hbig
      have HS := Lib.hid hsz
      clear hE ha hrs hN hbig hsz h hnn h64
      go_enter Tryz.func37, Tryz.ntmps37
      go_wp2_with fail
      refine HS.out.mono ?_
      rintro e w1 ⟨rfl, hb1⟩
      have HFF := Lib.hid (HF.out w1 hb1)
      clear hb1
      go_wp2
      go_ret2
      exact HFF.out
    · have hsE : sprE l R = 0 := by unfold sprE; rw [if_pos hE, Int.toNat_natCast, if_neg hbig]
      have hsL : sprL l R = setF (l.flatMap (dsV R)) := by unfold sprL; rw [if_pos hsE, Int.toNat_natCast]
      rw [hsE, hsL]
      have HV : Hid (∀ i, i < n → ∃ q z, l.getD i 0 = (wordN q z : Int) ∧ okB q z = true ∧ q ≤ R ∧ (wordN q z : Int) / 72057594037927936 = ((wordN q z / 72057594037927936 : Nat) : Int) ∧ bits .and .u64 ((wordN q z : Int) / 72057594037927936) 15 = (q : Int) ∧ dsV R (wordN q z : Int) = dsN (R - q) q z ∧ 7 ^ (R - q) ≤ sumS R l) := fun i hi => by
        have hm : l.getD i 0 ∈ l := getD_mem (j := i) (by omega)
        have h1 := List.all_eq_true.1 ha _ hm
        have h2 := h64 _ hm
        obtain ⟨z, hz, hv⟩ := word_of h2.1 h1
        have h3 := hrs _ hm
        obtain ⟨a1, a2, a3⟩ := word_cell hz
        have hl := (wordN_lt hz).1
        have h5 := sumS_snoc R l (k := i) (by omega)
        have h6 := sumS_le R (l := l) (i + 1)
        generalize rW (l.getD i 0).toNat = q at *
        obtain ⟨v1, -, -⟩ := head_val (wordN q z) (by omega)
        rw [a2] at v1
        exact ⟨q, z, hv, hz, h3, by omega, v1, dsV_word hz, by omega⟩
      have HFS : Hid (∀ i, i < n → (l.take (i + 1)).flatMap (dsV R) = (l.take i).flatMap (dsV R) ++ dsV R (l.getD i 0)) := fun i hi => flat_snoc _ _ (by omega)
      have HEND : Hid (l.take n = l) := List.take_of_length_le (by omega)
      have HLN : Hid (∀ i, i < n → sumS R (l.take (i + 1)) = sumS R (l.take i) + 7 ^ (R - rW (l.getD i 0).toNat)) := fun i hi => sumS_snoc R l (by omega)
      have HLE : Hid (∀ i, sumS R (l.take i) ≤ 20000) := fun i => Nat.le_trans (sumS_le R i) (by omega)
      have hS2 : sumS R l ≤ 20000 := by omega
      have q1 : decide (20000 < ((sumS R l : Nat) : Int)) = false := decide_eq_false (by omega)
      have q1n : decide (20000 < sumS R l) = false := decide_eq_false (by omega)
      have HSZ := Lib.hid hsz
      generalize sumS R l = S at *
      clear hE ha hrs hN hsz h hnn h64 hbig hsE hsL HNIL
      go_enter Tryz.func37, Tryz.ntmps37
      go_wp2_with fail
      refine HSZ.out.mono ?_
      rintro e w1 ⟨rfl, hb1⟩
      have HB1 := Lib.hid hb1
      clear hb1
      go_wp2
      go_loopw [8, 9] (fun sv i wr => ∃ (k m : Nat) (oo : Option Addr) (oc : Nat), k ≤ n ∧ m ≤ 20000 ∧ i = .int .i64 k ∧ sv = .slice oo m oc ∧ Hid (m = sumS R (l.take k)) ∧ Hid (wr.ownsRow w.heap.size 25 1 (.slice oo m oc) m (uV ((l.take k).flatMap (dsV R)))) ∧ Hid (Below w.heap.size w wr)) (fun _ i _ => n - (intOf i).toNat)
      case atStart => exact ⟨0, 0, none, 0, by omega, by omega, rfl, rfl, rfl, World.ownsRow_nil _ _ _ _, HB1.out⟩
      case round =>
        obtain ⟨k, m, oo, oc, hk, hm, rfl, rfl, HM, HO, HI⟩ := hrel
        have hsz := HI.out.size
        by_cases hlt : k < n
        · obtain ⟨g, off, rfl, hg, hc⟩ := (HW.out.below HI.out hB) (by rw [HN.out]; omega)
          have c0 := hc k (by rw [HN.out]; exact hlt)
          obtain ⟨q, z, hv, hz, hq, hw1, hw2, hds, h7⟩ := HV.out k hlt
          rw [hv] at c0
          have hfs := HFS.out k hlt
          rw [hv, hds] at hfs
          have hln := HLN.out k hlt
          rw [hv, Int.toNat_natCast, (word_cell hz).2.1] at hln
          have hle := HLE.out (k + 1)
          have HFS2 := Lib.hid hfs
          have HLN2 := Lib.hid hln
          have q3 : decide ((k : Int) < (n : Int)) = true := decide_eq_true (by omega)
          obtain ⟨W, hW⟩ : ∃ W, wordN q z = W := ⟨_, rfl⟩
          have HWE := Lib.hid hW
          rw [hW] at c0 hw2
          have hq12 : q ≤ 12 := by omega
          have hgw : g < wr.heap.size := by omega
          have HZ := Lib.hid hz
          have H7 := Lib.hid h7
          have HLE2 := Lib.hid hle
          clear hc hv hw1 hds hfs hln hW hz h7 hle
          go_upto_region 11 with (fail)
          have hba : Below wr.heap.size wr (wr.alloc (.cells #[.int .u64 W] 25)) := (Below.refl _ _).alloc (Nat.le_refl _) _
          have HOa := Lib.hid (own_later HO.out hba)
          have HIa := Lib.hid (HI.out.trans (hba.mono hsz))
          have NA : Hid (WordsAt (wr.alloc (.cells #[.int .u64 W] 25)) (wr.alloc (.cells #[.int .u64 W] 25)).heap.size (some ⟨wr.heap.size, 0, none⟩) (dsN 0 q z)) := by
            have h := words_new wr [(W : Int)] 25
            rw [← HWE.out] at h ⊢
            exact h.wider (by simp)
          have c0a : (wr.alloc (.cells #[.int .u64 W] 25)).cell? ⟨g, off + k, none⟩ = some (.int .u64 W) := (hba.cell (p := ⟨g, off + k, none⟩) hgw).trans c0
          have hga : g < (wr.alloc (.cells #[.int .u64 W] 25)).heap.size := Nat.lt_of_lt_of_le hgw hba.size
          generalize hwa : wr.alloc (.cells #[.int .u64 W] 25) = wa at *
          clear c0 hba HO HI hwa
          have hsa := HIa.out.size
          go_wp2
          go_loopw [10, 11] (fun nv kv wx => ∃ (e m2 : Nat) (no : Option Addr) (nc : Nat), q ≤ e ∧ e ≤ R ∧ kv = .int .i64 e ∧ nv = .slice no m2 nc ∧ m2 ≤ 20000 ∧ Hid (m2 = 7 ^ (e - q)) ∧ Hid (WordsAt wx wx.heap.size no (dsN (e - q) q z)) ∧ Hid (Below wa.heap.size wa wx)) (fun _ i _ => R - (intOf i).toNat)
          case atStart => exact ⟨q, 1, some ⟨wr.heap.size, 0, none⟩, 1, Nat.le_refl _, hq, rfl, rfl, by omega, by show _ = _; rw [Nat.sub_self], by rw [Nat.sub_self]; exact NA.out, Below.refl _ _⟩
          case round =>
            obtain ⟨e, m2, no, nc, he1, he2, rfl, rfl, hm2, HM2, HNW, HX⟩ := hrel
            obtain ⟨wx, rfl⟩ : ∃ wx, wx = wr := ⟨_, rfl⟩
            have hsx := HX.out.size
            have hDl : (dsN (e - q) q z).length = m2 := by rw [ds_len, HM2.out]
            have hm0 : 0 < m2 := by rw [HM2.out]; exact Nat.pow_pos (by decide)
            by_cases hlt2 : e < R
            · have q4 : decide ((e : Int) < (R : Int)) = true := decide_eq_true (by omega)
              have hk7 : 7 * m2 ≤ 20000 := by
                have h1 : 7 ^ (e - q) * 7 ≤ 7 ^ (R - q) := by rw [← Nat.pow_succ]; exact Nat.pow_le_pow_right (by decide) (by omega)
                have h2 := HM2.out
                have h3 := H7.out
                omega
              have hD' : dsN (e + 1 - q) q z = (dsN (e - q) q z).flatMap kidV := by
                rw [show e + 1 - q = (e - q) + 1 by omega]
                exact ds_succ _ _ (by omega) HZ.out
              have HKJ : Hid (∀ j, j < m2 → ∃ y, (dsN (e - q) q z).getD j 0 = (wordN e y : Int) ∧ okB e y = true ∧ kidV ((dsN (e - q) q z).getD j 0) = dsN 1 e y) := fun j hj => by
                obtain ⟨y, hy, -, hv⟩ := (ds_mem (e - q) q z (by omega) HZ.out _).1 (getD_mem (l := dsN (e - q) q z) (j := j) (by omega))
                rw [show q + (e - q) = e by omega] at hy hv
                exact ⟨y, hv, hy, by rw [hv]; exact kidV_word hy⟩
              obtain ⟨D, hD⟩ : ∃ D, dsN (e - q) q z = D := ⟨_, rfl⟩
              rw [hD] at HKJ hD' HNW hDl
              have HFJ : Hid (∀ j, j < m2 → (D.take (j + 1)).flatMap kidV = (D.take j).flatMap kidV ++ kidV (D.getD j 0)) := fun j hj => flat_snoc _ _ (by omega)
              have HTJ : Hid (D.take m2 = D) := List.take_of_length_le (by omega)
              have HDL := Lib.hid hDl
              have HD' := Lib.hid hD'
              have hM3 : m2 * 7 = 7 ^ (e + 1 - q) := by rw [show e + 1 - q = (e - q) + 1 by omega, Nat.pow_succ, HM2.out]
              have HM3 := Lib.hid hM3
              clear hD hDl hD' hM3 HM2
              go_wp2
              go_loopw [12, 13] (fun xv jv wy => ∃ (j t : Nat) (xo : Option Addr) (xc : Nat), j ≤ m2 ∧ t ≤ 20000 ∧ jv = .int .i64 j ∧ xv = .slice xo t xc ∧ Hid (t = j * 7) ∧ Hid (wy.ownsRow wx.heap.size 25 1 (.slice xo t xc) t (uV ((D.take j).flatMap kidV))) ∧ Hid (Below wx.heap.size wx wy)) (fun _ i _ => m2 - (intOf i).toNat)
              case atStart => exact ⟨0, 0, none, 0, by omega, by omega, rfl, rfl, rfl, World.ownsRow_nil _ _ _ _, Below.refl _ _⟩
              case round =>
                obtain ⟨j, t, xo, xc, hj, ht, rfl, rfl, HT, HXO, HY⟩ := hrel
                obtain ⟨wy, rfl⟩ : ∃ wy, wy = wr := ⟨_, rfl⟩
                have hsy := HY.out.size
                by_cases hlt3 : j < m2
                · obtain ⟨g2, off2, rfl, hg2, hc2⟩ := (HNW.out.below HY.out (Nat.le_refl _)) (by rw [HDL.out]; omega)
                  have c2 := hc2 j (by rw [HDL.out]; exact hlt3)
                  obtain ⟨y, hy1, hy2, hy3⟩ := HKJ.out j hlt3
                  have hfj := HFJ.out j hlt3
                  rw [hy3] at hfj
                  rw [hy1] at c2
                  have HKC := Lib.hid (rkw_in hy2 (by omega) wy)
                  have HFJ2 := Lib.hid hfj
                  have q5 : decide ((j : Int) < (m2 : Int)) = true := decide_eq_true (by omega)
                  have hgy : g2 < wy.heap.size := Nat.lt_of_lt_of_le hg2 hsy
                  have ht7 : t + 7 ≤ 20000 := by have := HT.out; omega
                  clear hc2 hy1 hy2 hy3 hfj
                  obtain ⟨C, hC⟩ : ∃ C, dsN 1 e y = C := ⟨_, rfl⟩
                  have hCl : C.length = 7 := by rw [← hC]; exact ds_len _ _ _
                  rw [hC] at HKC HFJ2
                  have HCL := Lib.hid hCl
                  generalize wordN e y = V at *
                  clear hC hCl
                  go_wp2_with fail
                  refine HKC.out.mono ?_
                  rintro e4 w4 ⟨ko, kc, rfl, hko, hb4⟩
                  obtain ⟨ko', kc', hform, -, hkg⟩ := own_form hko
                  cases hform
                  obtain ⟨g4, rfl, -, hg4, hn4⟩ := hkg (by omega)
                  have hB4 := HY.out.trans (hb4.mono hsy)
                  have hown := own_later HXO.out hb4
                  have hbs := hB4.size
                  have hnw : ∀ j u, (uV C)[j]? = some u → w4.cell? ((⟨g4, 0, none⟩ : Addr).add j) = some u := fun j u hu => by rw [Addr.add_lit, Nat.zero_add]; exact hn4 j u hu
                  have HB4 := Lib.hid hB4
                  clear hb4 hko hkg hn4 hB4 HKC HXO HY c2
                  go_wp2_with (at_builtin; refine wpList_append_own_at _ rfl (.tmp 54) (.tmp 59) 22 rfl wx.heap.size 25 i0 (.int .u64 0) 1 8 Tryz.underlying22 hi hz0 hz1 hz2 rfl (by decide) _ t (uV ((D.take j).flatMap kidV)) rfl hown ⟨g4, 0, none⟩ 7 kc (uV C) rfl (by rw [uV_len, HCL.out]) hnw (uV_cell C) (by unfold maxLen; omega) (by omega) hbs ?_; intro v5 w5 hown5 hgrow5 _ _)
                  obtain ⟨xo5, xc5, rfl, -⟩ := own_form hown5
                  have HX5 : Hid (w5.ownsRow wx.heap.size 25 1 (.slice xo5 (t + 7) xc5) (t + 7) (uV ((D.take (j + 1)).flatMap kidV))) := by rw [HFJ2.out, show uV ((D.take j).flatMap kidV ++ C) = uV ((D.take j).flatMap kidV) ++ uV C by simp [uV]]; exact hown5
                  have HY5 := Lib.hid (below_append HB4.out hown hbs hgrow5)
                  clear hown5 hgrow5 hown hbs HB4 hnw
                  go_roundw
                  case rel => exact ⟨j + 1, t + 7, xo5, xc5, by omega, ht7, by go_num, rfl, by show _ = _; rw [HT.out]; omega, HX5.out, HY5.out⟩
                  case measure => simp [intOf]; omega
                · obtain rfl : j = m2 := by omega
                  have q5 : decide ((j : Int) < (j : Int)) = false := decide_eq_false (by omega)
                  have ho := HXO.out
                  rw [HTJ.out, ← HD'.out] at ho
                  have HWO := Lib.hid (words_own (by rw [ds_len, HT.out, HM3.out]) ho)
                  have HX6 := Lib.hid (HX.out.trans (HY.out.mono hsx))
                  have HT6 : Hid (t = 7 ^ (e + 1 - q)) := by show _ = _; rw [HT.out, HM3.out]
                  clear ho HXO HY HX HT
                  go_wp2
                  go_roundw
                  case rel => exact ⟨e + 1, t, xo, xc, by omega, by omega, by go_num, rfl, ht, HT6.out, HWO.out, HX6.out⟩
                  case measure => simp [intOf]; omega
            · obtain rfl : e = R := by omega
              have q4 : decide ((e : Int) < (e : Int)) = false := decide_eq_false (by omega)
              obtain ⟨g2, off2, rfl, hg2, -⟩ := HNW.out (by omega)
              have hown := own_later HOa.out HX.out
              have HI2 := Lib.hid (HIa.out.trans (HX.out.mono hsa))
              have hbs := HI2.out.size
              have hnw := words_news HNW.out ⟨g2, off2, none⟩ rfl
              obtain ⟨D, hD⟩ : ∃ D, dsN (e - q) q z = D := ⟨_, rfl⟩
              rw [hD] at hnw hDl
              have HDL := Lib.hid hDl
              have HFS3 := HFS2.out
              rw [hD] at HFS3
              have HFS4 := Lib.hid HFS3
              have hmm : m + m2 = sumS e (l.take (k + 1)) := by rw [HLN2.out, HM2.out, HM.out]
              have HMM := Lib.hid hmm
              have hm20 : m + m2 ≤ 20000 := by have := HLE2.out; omega
              clear hD hDl HFS3 hmm HFS2 HLN2 HM2 HM HNW HX HOa HIa HZ
              go_wp2_with (at_builtin; refine wpList_append_own_at _ rfl (.tmp 62) (.tmp 63) 22 rfl w.heap.size 25 i0 (.int .u64 0) 1 8 Tryz.underlying22 hi hz0 hz1 hz2 rfl (by decide) _ m (uV ((l.take k).flatMap (dsV e))) rfl hown ⟨g2, off2, none⟩ m2 nc (uV D) rfl (by rw [uV_len, HDL.out, Nat.mul_one]) hnw (uV_cell D) (by unfold maxLen; omega) (by omega) hbs ?_; intro v5 w5 hown5 hgrow5 _ _)
              obtain ⟨xo5, xc5, rfl, -⟩ := own_form hown5
              have HX5 : Hid (w5.ownsRow w.heap.size 25 1 (.slice xo5 (m + m2) xc5) (m + m2) (uV ((l.take (k + 1)).flatMap (dsV e)))) := by rw [HFS4.out, show uV ((l.take k).flatMap (dsV e) ++ D) = uV ((l.take k).flatMap (dsV e)) ++ uV D by simp [uV]]; exact hown5
              have HY5 := Lib.hid (below_append HI2.out hown hbs hgrow5)
              clear hown5 hgrow5 hown hbs HI2 hnw
              go_roundw
              case rel => exact ⟨k + 1, m + m2, xo5, xc5, by omega, hm20, by go_num, rfl, HMM.out, HX5.out, HY5.out⟩
              case measure => simp [intOf]; omega
        · obtain rfl : k = n := by omega
          have q5 : decide ((k : Int) < (k : Int)) = false := decide_eq_false (by omega)
          have ho := HO.out
          rw [HEND.out] at ho
          obtain ⟨T, hT⟩ : ∃ T, l.flatMap (dsV R) = T := ⟨_, rfl⟩
          rw [hT] at ho
          have HTT := Lib.hid hT
          have hTl : T.length = m := by have := ho.1; rw [uV_len] at this; omega
          have hset := rset_own oo oc T wr (words_own hTl.symm ho) (by omega)
          rw [hTl] at hset
          have HSET := Lib.hid hset
          have HB2 := Lib.hid HI.out
          clear ho hT hTl hset HO HI HM
          go_wp2_with fail
          refine HSET.out.mono ?_
          rintro e4 w4 ⟨so, sc, rfl, hw4, hb4⟩
          have HF : Hid (ToldP w (setF T) 0 (.returned (.tuple #[.slice so (setF T).length sc, .int .i64 0])) w4) := ⟨so, sc, rfl, own_base hw4 HB2.out.size, HB2.out.trans (hb4.mono HB2.out.size)⟩
          clear hw4 hb4
          go_wp2
          go_ret2
          rw [HTT.out]
          exact HF.out
  · have HF := Lib.hid (HNIL.out (szE l r) · · (by unfold sprE; rw [if_neg hE]) hE)
    generalize szE l r = E at *
    generalize szN l r = S at *
    have q1 : (E != 0) = true := by simp [hE]
    have HS := Lib.hid hsz
    clear hE hsz h hnn h64
    go_enter Tryz.func37, Tryz.ntmps37
    go_wp2_with fail
    refine HS.out.mono ?_
    rintro e w1 ⟨rfl, hb1⟩
    have HFF := Lib.hid (HF.out w1 hb1)
    clear hb1
    go_wp2
    go_ret2
    exact HFF.out
end Go.Proofs.YtkjfdaleamonaaaGreat
