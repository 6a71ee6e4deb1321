/- Joined: PdJ, PkD: contracts and plain laws, each with its own heading below. -/
import Derived.Test.YtkjfdaleamonaaaGreatPackAI
import Derived.ArgAppend
import Derived.Deep.DeepAppendRoom
/- The contract of pack.Spread: its walk. -/
namespace Go.Proofs.YtkjfdaleamonaaaGreat
open Go.RowKit Go.Lib Wd

def ToldR (w : World) (L : List Int) (err : Int) (e : Ending) (w' : World) : Prop :=
  ∃ ao c, e = .returned (.tuple #[.slice ao L.length c, .int .i64 err]) ∧ (ao = none → c = 0) ∧ L.length ≤ c ∧ (∀ g o s, ao = some ⟨g, o, s⟩ → w.heap.size ≤ g) ∧ WordsAt w' w'.heap.size ao L ∧ Below w.heap.size w w'
theorem rowu_words {w : World} {so : Option Addr} {L : List Int} (h : 0 < L.length → ∃ g, so = some ⟨g, 0, none⟩ ∧ RowU w g L.length L) : WordsAt w w.heap.size so L := fun h0 => by
  obtain ⟨g, e, h1, h2, -⟩ := h h0
  exact ⟨g, 0, e, h1, fun i hi => by rw [Nat.zero_add]; exact h2 i hi⟩
set_option maxRecDepth 100000 in
set_option maxHeartbeats 16000000 in
theorem spread_row (ao : Option Addr) (c : Nat) (l : List Int) (r : Int) (w : World) (B : Nat) (h : WordsAt w B ao l) (hB : B ≤ w.heap.size) (hn : l.length ≤ 1000000) (h64 : In64 l) :
    Calls Tryz.prog 25 #[.slice ao l.length c, .int .i64 r] w (ToldR w (sprL l r) (sprE l r)) := by
  obtain ⟨i0, hi, hz0, hz1, hz2⟩ := info_parts info_u
  obtain ⟨i1, hj, hy0, hy1, hy2⟩ := info_parts info_c
  have HNIL : Hid (∀ err w', Below w.heap.size w w' → sprE l r = err → err ≠ 0 → ToldR w (sprL l r) (sprE l r) (.returned (.tuple #[.slice none 0 0, .int .i64 err])) w') := fun err w' hb he h0 => by
    have : sprL l r = [] := by unfold sprL; rw [if_neg (by rw [he]; exact h0)]
    rw [this, he]
    exact ⟨none, 0, rfl, fun _ => rfl, Nat.le_refl _, fun _ _ _ h => (by cases h), fun h => by simp at h, hb⟩
  have HALL := Lib.hid (fun wx hb => all_any ao c l wx B (h.below (C := w.heap.size) hb hB) (Nat.le_trans hB (Below.size hb)) hn h64)
  have hsz := psize_any ao c l r w B h hB hn h64
  obtain ⟨n, hnn⟩ : ∃ n, l.length = n := ⟨_, rfl⟩
  have HN := Lib.hid hnn
  rw [hnn] at hn hsz HALL ⊢
  clear h hnn h64
  by_cases hE : szE l r = 0
  · obtain ⟨R, rfl, hR, ha, hrs, hN⟩ := szE_zero hE
    rw [hE, hN] at hsz
    by_cases hbig : 20000 < sumS R l
    · have HF := Lib.hid (HNIL.out 7 · · (by unfold sprE; rw [if_pos hE, Int.toNat_natCast, if_pos hbig]) (by decide))
      generalize sumS R l = S at *
      have q1 : decide (20000 < (S : Int)) = true := decide_eq_true (by omega)
      have q1n : decide (20000 < S) = true := decide_eq_true hbig
      have HS := Lib.hid hsz
      clear hE ha hrs hN hbig hsz
      go_enter Tryz.func25, Tryz.ntmps25
      go_wp2_with fail
      refine HS.out.mono ?_
      rintro e w1 ⟨rfl, hb1⟩
      have HFF := Lib.hid (HF.out w1 hb1)
      clear hb1
      go_wp2
      go_ret2
      exact HFF.out
    · obtain ⟨k1, k2, k3⟩ := cel_ok ha hrs
      have hsE : sprE l R = 0 := by unfold sprE; rw [if_pos hE, Int.toNat_natCast, if_neg hbig]
      have hsL : sprL l R = setF (l.flatMap (dsV R)) := by unfold sprL; rw [if_pos hsE, Int.toNat_natCast]
      rw [hsE, hsL]
      obtain ⟨N0, hN0⟩ : ∃ N0, l.map celW = N0 := ⟨_, rfl⟩
      rw [hN0] at k1 k2 k3
      have HN0 := Lib.hid hN0
      have HSL := Lib.hid (totC_len R N0)
      rw [← k2] at hsz hbig
      generalize l.flatMap (dsV R) = T at *
      have HFIN : Hid (∀ (O : List Int), (∀ x, x ∈ O ↔ x ∈ T) → setF O = setF T) := fun O hO => (setF_up O).ext (setF_up T) fun x => by rw [setF_mem, setF_mem, hO]
      have HK := Lib.hid (And.intro k1 k3)
      have HAW := Lib.hid ha
      have HML : Hid (N0.length = n) := by show _ = _; rw [← hN0, List.length_map, HN.out]
      have HOF : Hid (∀ (k : Nat) (z : E2), okB k z = true → ∀ w, Calls Tryz.prog 51 #[vC k z] w fun e w' => e = .returned (.tuple #[.int .u64 (wordN k z : Nat), .int .i64 0]) ∧ Below w.heap.size w w') := fun k z hz w => by
        have h := of_any (k : Int) z w
        rw [(ofW_ok hz).1, (ofW_ok hz).2.1] at h
        exact h
      have HCK : Hid (∀ (k : Nat) (z : E2), okB k z = true → k < 12 → ∀ w, Calls Tryz.prog 52 #[vC k z] w (ToldC w (kidsL k z) 0)) := fun k z hz hk w => by
        have h := ckids_any (k : Int) z w
        rw [(kd_ok hz (by omega)).1, (kd_ok hz (by omega)).2] at h
        exact h
      obtain ⟨S, hS⟩ : ∃ S, totC R N0 = S := ⟨_, rfl⟩
      have HTS := Lib.hid hS
      rw [hS] at hsz hbig HSL
      have hS2 : S ≤ 20000 := by omega
      have q1 : decide (20000 < (S : Int)) = false := decide_eq_false (by omega)
      have q1n : decide (20000 < S) = false := decide_eq_false hbig
      have HSZ := Lib.hid hsz
      have hnS : n ≤ S := by have := HSL.out; rw [HML.out] at this; exact this
      clear hE ha hrs hN hbig hsz k1 k2 k3 hsE hsL hS hN0
      go_enter Tryz.func25, Tryz.ntmps25
      go_wp2_with fail
      refine HSZ.out.mono ?_
      rintro e w1 ⟨rfl, hb1⟩
      have HB1 := Lib.hid hb1
      clear hb1
      go_wp2_with fail
      refine (HALL.out _ HB1.out).mono ?_
      rintro e w2 ⟨hb2, h2⟩
      rcases h2 with ⟨-, oo, oc, rfl, ho⟩ | ⟨h2, -⟩
      · rw [HN.out, HN0.out] at ho
        rw [HN.out]
        have HB2 := Lib.hid (HB1.out.trans (hb2.mono HB1.out.size))
        have HO := Lib.hid (own_base ho HB1.out.size)
        clear hb2 ho HALL
        go_wp2
        go_loopg [8, 10] (cstC R N0) (fun q nv ov wr => ∃ (N : List Cl) (O : List Int) (nn on : Nat) (no oo : Option Addr) (nc oc : Nat), nv = .slice no nn nc ∧ ov = .slice oo on oc ∧ nn + on ≤ 20000 ∧ cstC R N ≤ q ∧ Hid (N.length = nn ∧ O.length = on ∧ (∀ c ∈ N, OkC R c) ∧ on + totC R N = S ∧ ∀ x, (x ∈ O ∨ ∃ c ∈ N, x ∈ dsC R c) ↔ x ∈ T) ∧ Hid (wr.ownsRow w.heap.size 32 3 (.slice no nn nc) nn (cV N) ∧ wr.ownsRow w.heap.size 25 1 (.slice oo on oc) on (uV O) ∧ Below w.heap.size w wr))
        case atStart => exact ⟨N0, [], n, 0, oo, none, oc, 0, rfl, rfl, by omega, Nat.le_refl _, ⟨HML.out, rfl, HK.out.1, by rw [HTS.out]; omega, fun x => by rw [← HK.out.2 x]; simp⟩, HO.out, World.ownsRow_nil _ _ _ _, HB2.out⟩
        case round =>
          obtain ⟨N, O, nn, on, no, oo, nc, oc, rfl, rfl, hsum, hq, HP, HI⟩ := hrel
          have hsz := HI.out.2.2.size
          by_cases hnn0 : nn = 0
          · subst hnn0
            obtain rfl : N = [] := List.eq_nil_of_length_eq_zero HP.out.1
            have hws := words_own HP.out.2.1.symm HI.out.2.1
            have hset := uset_row oo oc O wr wr.heap.size hws (by rw [HP.out.2.1]; omega)
            rw [HP.out.2.1] at hset
            have HSET := Lib.hid hset
            have HEQ : Hid (setF O = setF T) := HFIN.out O fun x => by rw [← HP.out.2.2.2.2 x]; simp
            rw [HEQ.out] at HSET
            have HBR := Lib.hid HI.out.2.2
            clear hws hset HI HP
            go_wp2_with fail
            refine HSET.out.mono ?_
            rintro e w3 ⟨so, rfl, hnb, hrw, hz, hb3⟩
            obtain ⟨sc, hsc⟩ : ∃ sc, (setF T).length = sc := ⟨_, rfl⟩
            have HF : Hid (ToldR w (setF T) 0 (.returned (.tuple #[.slice so (setF T).length (setF T).length, .int .i64 0])) w3) := ⟨so, (setF T).length, rfl, fun e => hz e, Nat.le_refl _, fun g o s e => Nat.le_trans HBR.out.size (hnb g o s e).1, rowu_words hrw, HBR.out.trans (hb3.mono HBR.out.size)⟩
            clear hz hnb hrw hb3
            rw [hsc] at HF ⊢
            go_wp2
            go_ret2
            exact HF.out
          · obtain ⟨k, rfl⟩ : ∃ k, nn = k + 1 := ⟨nn - 1, by omega⟩
            obtain ⟨N', cc, hNe⟩ : ∃ N' cc, N = N' ++ [cc] := by
              have hne : N ≠ [] := fun e => by have := HP.out.1; rw [e] at this; simp at this
              exact ⟨N.dropLast, N.getLast hne, (List.dropLast_concat_getLast _).symm⟩
            subst hNe
            have hN'l : N'.length = k := by have := HP.out.1; simpa using this
            obtain ⟨j, z, rfl, hz, hjR⟩ := HP.out.2.2.1 cc (by simp)
            obtain ⟨gb, rfl, hgl, hcells⟩ : ∃ g, no = some ⟨g, 0, none⟩ ∧ g < wr.heap.size ∧ ∀ i u, (cV (N' ++ [((j : Int), z)]))[i]? = some u → wr.cell? ⟨g, i, none⟩ = some u := by
              obtain ⟨ao', c', e, -, hh⟩ := own_form HI.out.1
              cases e
              obtain ⟨g, e2, -, h3, h4⟩ := hh (by omega)
              exact ⟨g, e2, h3, h4⟩
            have hkc : k + 1 ≤ nc := by
              obtain ⟨ao', c', e, h1, -⟩ := own_form HI.out.1
              cases e
              exact h1
            have hg3 := cV_get (N' ++ [((j : Int), z)]) k (by rw [HP.out.1]; omega)
            have hcg : cg (N' ++ [((j : Int), z)]) k = ((j : Int), z) := by
              unfold cg
              rw [List.getD_eq_getElem?_getD, List.getElem?_append_right (by omega), hN'l, Nat.sub_self]; rfl
            rw [hcg] at hg3
            have c0 := hcells _ _ hg3.1
            have c1 := hcells _ _ hg3.2.1
            have c2 := hcells _ _ hg3.2.2
            simp only at c0 c1 c2
            have hown' := own_take HI.out.1 (Nat.le_succ k)
            rw [cV_take _ k (by rw [HP.out.1]; omega), List.take_append_of_le_length (by omega), List.take_of_length_le (by omega)] at hown'
            have htot := HP.out.2.2.2.1
            rw [totC_append] at htot
            rw [cstC_append] at hq
            have T1 : Hid (Tri (wr.alloc (.cells #[.int .i64 j, .int .i64 z.1, .int .i64 z.2] 32)) wr.heap.size j z) := heap_new _ _ _ rfl
            have hal : Below wr.heap.size wr (wr.alloc (.cells #[.int .i64 j, .int .i64 z.1, .int .i64 z.2] 32)) := (Below.refl _ _).alloc (Nat.le_refl _) _
            have HO2 : Hid ((wr.alloc (.cells #[.int .i64 j, .int .i64 z.1, .int .i64 z.2] 32)).ownsRow w.heap.size 32 3 (.slice (some ⟨gb, 0, none⟩) k nc) k (cV N') ∧ (wr.alloc (.cells #[.int .i64 j, .int .i64 z.1, .int .i64 z.2] 32)).ownsRow w.heap.size 25 1 (.slice oo on oc) on (uV O) ∧ Below w.heap.size w (wr.alloc (.cells #[.int .i64 j, .int .i64 z.1, .int .i64 z.2] 32))) := ⟨own_later hown' hal, own_later HI.out.2.1 hal, HI.out.2.2.trans (hal.mono hsz)⟩
            have HMEM : Hid (∀ x, (x ∈ O ∨ (∃ c ∈ N', x ∈ dsC R c) ∨ x ∈ dsC R ((j : Int), z)) ↔ x ∈ T) := fun x => by
              rw [← HP.out.2.2.2.2 x]
              simp only [List.mem_append, List.mem_singleton]
              constructor
              · rintro (h | ⟨c, h1, h2⟩ | h)
                · exact .inl h
                · exact .inr ⟨c, .inl h1, h2⟩
                · exact .inr ⟨_, .inr rfl, h⟩
              · rintro (h | ⟨c, h1 | rfl, h2⟩)
                · exact .inl h
                · exact .inr (.inl ⟨c, h1, h2⟩)
                · exact .inr (.inr h2)
            have HOK' : Hid (∀ c ∈ N', OkC R c) := fun c hc => HP.out.2.2.1 c (List.mem_append_left _ hc)
            have HN'L := Lib.hid hN'l
            have HOL := Lib.hid HP.out.2.1
            have hw7 : IntKind.i64.wrap ((k : Int) + 1 - 1) = (k : Int) := by rw [Int.add_sub_cancel]; exact wrap_in (by omega) (by omega)
            have hlt7 : (k : Int) < (k : Int) + 1 := by omega
            clear hg3 hcg hcells hown' hal HI HP hN'l
            have hgw : gb < wr.heap.size := hgl
            go_upto_region 11 with (fail)
            generalize hbk : wr.heap.size = bk at *
            clear hbk
            generalize wr.alloc (.cells #[.int .i64 j, .int .i64 z.1, .int .i64 z.2] 32) = w4 at *
            obtain ⟨t0, t1, t2, t3, t4, t5, t6⟩ := T1.out.cells
            have hcst : 1 ≤ cst (R - j) := by cases R - j <;> simp only [cst] <;> omega
            have htot2 : on + (totC R N' + 7 ^ (R - j)) = S := by simpa [totC] using htot
            have hq2 := Nat.le_trans (show cstC R N' + cst (R - j) ≤ _ by simp [cstC]) hq
            clear htot hq
            by_cases hjr : j = R
            · subst hjr
              have hlt := Nat.lt_of_lt_of_le (show cstC j N' < cstC j N' + cst (j - j) by omega) hq2
              have HTT : Hid (on + 1 + totC j N' = S) := by show _ = _; rw [Nat.sub_self, Nat.pow_zero] at htot2; omega
              have HMEM2 : Hid (∀ x, (x ∈ O ++ [(wordN j z : Int)] ∨ ∃ c ∈ N', x ∈ dsC j c) ↔ x ∈ T) := fun x => by
                have e : dsC j ((j : Int), z) = [(wordN j z : Int)] := by unfold dsC; rw [Int.toNat_natCast, Nat.sub_self]; rfl
                rw [← HMEM.out x, e]
                simp only [List.mem_append, List.mem_singleton]
                constructor
                · rintro ((h | h) | h)
                  · exact .inl h
                  · exact .inr (.inr h)
                  · exact .inr (.inl h)
                · rintro (h | h | h)
                  · exact .inl (.inl h)
                  · exact .inr h
                  · exact .inl (.inr h)
              have HO3 := Lib.hid (HOF.out j z hz)
              have hsum2 : k + (on + 1) ≤ 20000 := by omega
              have q5 : ((j : Int) == (j : Int)) = true := by simp
              generalize wordN j z = W at *
              clear hq2 htot2 HMEM hz hcst
              simp only [vC] at HO3
              go_wp2_with fail
              refine (HO3.out _).mono ?_
              rintro e w5 ⟨rfl, hb5⟩
              have hal : Below w5.heap.size w5 (w5.alloc (.cells #[.int .u64 W] 25)) := (Below.refl _ _).alloc (Nat.le_refl _) _
              have HON5 := Lib.hid (own_later HO2.out.1 (hb5.trans (hal.mono hb5.size)))
              have hown := own_later HO2.out.2.1 hb5
              have HB5 := Lib.hid ((HO2.out.2.2.trans (hb5.mono HO2.out.2.2.size)).alloc (HO2.out.2.2.trans (hb5.mono HO2.out.2.2.size)).size (.cells #[.int .u64 (W : Int)] 25))
              have hbs : w.heap.size ≤ (w5.alloc (.cells #[.int .u64 (W : Int)] 25)).heap.size := HB5.out.size
              clear hb5 hal t0 t1 t2 t3 t4 t5 t6 T1 HO2 HO3
              go_wp2_with (at_builtin; refine wpList_append_own_at _ rfl (.tmp 57) (.tmp 59) 22 rfl w.heap.size 25 i0 (.int .u64 0) 1 8 Tryz.underlying22 hi hz0 hz1 hz2 rfl (by decide) _ on (uV O) rfl (hown.alloc _) ⟨w5.heap.size, 0, none⟩ 1 1 [.int .u64 W] rfl rfl (cells_new _ _ _ _ rfl) (by simp [Value.oneCell']) (by unfold maxLen; omega) (by omega) hbs ?_; intro v8 w8 hown8 hg8 _ hat8)
              obtain ⟨oo8, oc8, rfl, -⟩ := own_form hown8
              have HN8 := Lib.hid (HON5.out.kept hg8 (own_apart2 HON5.out (hown.alloc (.cells #[.int .u64 (W : Int)] 25)) (by decide)))
              have HO8 : Hid (w8.ownsRow w.heap.size 25 1 (.slice oo8 (on + 1) oc8) (on + 1) (uV (O ++ [(W : Int)]))) := by rw [uV_snoc]; exact hown8
              have HB8 := Lib.hid (below_append HB5.out (hown.alloc (.cells #[.int .u64 (W : Int)] 25)) hbs hg8)
              have HL8 : Hid ((O ++ [(W : Int)]).length = on + 1) := by show _ = _; rw [List.length_append, HOL.out]; rfl
              clear hown hown8 hg8 hat8 hbs HON5 HB5
              go_roundg (cstC j N')
              case measure => exact hlt
              case rel => exact ⟨N', O ++ [(W : Int)], k, on + 1, _, oo8, nc, oc8, rfl, rfl, hsum2, Nat.le_refl _, ⟨HN'L.out, HL8.out, HOK'.out, HTT.out, HMEM2.out⟩, HN8.out, HO8.out, HB8.out⟩
            · have hjl : j < R := by omega
              obtain ⟨g1, g2⟩ := kids_tot hjl z
              have hlt := Nat.lt_of_lt_of_le (show cstC R (N' ++ kidsL j z) < cstC R N' + cst (R - j) by rw [cstC_append]; omega) hq2
              have HTT : Hid (on + totC R (N' ++ kidsL j z) = S) := by show _ = _; rw [totC_append, g1]; exact htot2
              have HMEM2 : Hid (∀ x, (x ∈ O ∨ ∃ c ∈ N' ++ kidsL j z, x ∈ dsC R c) ↔ x ∈ T) := fun x => by
                rw [← HMEM.out x, ← kids_mem hjl z x]
                simp only [List.mem_append]
                constructor
                · rintro (h | ⟨c, h1 | h1, h2⟩)
                  · exact .inl h
                  · exact .inr (.inl ⟨c, h1, h2⟩)
                  · exact .inr (.inr ⟨c, h1, h2⟩)
                · rintro (h | ⟨c, h1, h2⟩ | ⟨c, h1, h2⟩)
                  · exact .inl h
                  · exact .inr ⟨c, .inl h1, h2⟩
                  · exact .inr ⟨c, .inr h1, h2⟩
              have HOK2 : Hid (∀ c ∈ N' ++ kidsL j z, OkC R c) := fun c hc => (List.mem_append.1 hc).elim (HOK'.out c) (kids_okC hjl hR hz c)
              have HKL : Hid ((kidsL j z).length = 7) := by show _ = _; unfold kidsL; simp
              have hlen := totC_len R (N' ++ kidsL j z)
              have HL2 : Hid ((N' ++ kidsL j z).length = k + 7) := by show _ = _; rw [List.length_append, HN'L.out, HKL.out]
              have hsum2 : k + 7 + on ≤ 20000 := by have := HTT.out; rw [HL2.out] at hlen; omega
              have HC3 := Lib.hid (HCK.out j z hz (by omega))
              have q5 : ((j : Int) == (R : Int)) = false := by rw [beq_eq_false_iff_ne]; omega
              generalize kidsL j z = K at *
              clear hq2 htot2 HMEM hz hcst g1 g2 hlen hjr
              simp only [vC] at HC3
              go_wp2_with fail
              refine (HC3.out _).mono ?_
              rintro e w5 ⟨qo, qc, rfl, hqa, hb5⟩
              rw [HKL.out]
              obtain ⟨qb, qf, rfl, -, -⟩ := hqa (by rw [HKL.out]; omega)
              have hnews := cell_news hqa rfl
              have HNW := Lib.hid hnews
              have hown := own_later HO2.out.1 hb5
              have HOU5 := Lib.hid (own_later HO2.out.2.1 hb5)
              have HB5 := Lib.hid (HO2.out.2.2.trans (hb5.mono HO2.out.2.2.size))
              have hbs : w.heap.size ≤ w5.heap.size := HB5.out.size
              have HKV : Hid ((cV K).length = 7 * 3) := by show _ = _; rw [cV_length, HKL.out]
              clear hb5 hqa hnews t0 t1 t2 t3 t4 t5 t6 T1 HO2 HC3
              go_wp2_with (at_builtin; refine wpList_append_own_at _ rfl (.tmp 66) (.tmp 67) 35 rfl w.heap.size 32 i1 (.agg #[.int .i64 0, .int .i64 0, .int .i64 0]) 3 24 Tryz.underlying35 hj hy0 hy1 hy2 rfl (by decide) _ k (cV N') rfl hown ⟨qb, qf, none⟩ 7 qc (cV K) rfl HKV.out HNW.out (cV_cell K) (by unfold maxLen; omega) (by omega) hbs ?_; intro v8 w8 hown8 hg8 _ hat8)
              obtain ⟨no8, nc8, rfl, -⟩ := own_form hown8
              have HO8 := Lib.hid (HOU5.out.kept hg8 (own_apart2 HOU5.out hown (by decide)))
              have HN8 : Hid (w8.ownsRow w.heap.size 32 3 (.slice no8 (k + 7) nc8) (k + 7) (cV (N' ++ K))) := by rw [cV_append]; exact hown8
              have HB8 := Lib.hid (below_append HB5.out hown hbs hg8)
              clear hown hown8 hg8 hat8 hbs HOU5 HB5
              go_roundg (cstC R (N' ++ K))
              case measure => exact hlt
              case rel => exact ⟨N' ++ K, O, k + 7, on, no8, oo, nc8, oc, rfl, rfl, hsum2, Nat.le_refl _, ⟨HL2.out, HOL.out, HOK2.out, HTT.out, HMEM2.out⟩, HN8.out, HO8.out, HB8.out⟩
      · rw [HAW.out] at h2; cases h2
  · have HF := Lib.hid (HNIL.out (szE l r) · · (by unfold sprE; rw [if_neg hE]) hE)
    generalize szE l r = E at *
    generalize szN l r = S at *
    have q1 : (E != 0) = true := by simp [hE]
    have HS := Lib.hid hsz
    clear hE hsz
    go_enter Tryz.func25, Tryz.ntmps25
    go_wp2_with fail
    refine HS.out.mono ?_
    rintro e w1 ⟨rfl, hb1⟩
    have HFF := Lib.hid (HF.out w1 hb1)
    clear hb1
    go_wp2
    go_ret2
    exact HFF.out
end Go.Proofs.YtkjfdaleamonaaaGreat
/- append to a row of one's own, the old slice looked at again; a known append in a region that draws; a list's tail. -/
namespace Go.Proofs.YtkjfdaleamonaaaGreat
open Go.RowKit Go.Lib

theorem own_shrink {w : World} {base g n m c : Nat} {e : TypeId} {xs ys : List Value} (h : w.ownsRow base e 1 (.slice (some ⟨g, 0, none⟩) (n + m) c) (n + m) (xs ++ ys)) (hl : xs.length = n) :
    w.ownsRow base e 1 (.slice (some ⟨g, 0, none⟩) n c) n xs := by
  refine ⟨by omega, ?_⟩
  rcases h.2 with ⟨h1, -⟩ | ⟨g', cap, cur, h1, h2, h3, h4, h5, h6, h7⟩
  · cases h1
  · cases h1
    refine .inr ⟨g, c, cur, rfl, h2, h3, by omega, h5, h6, ?_⟩
    have := congrArg (List.take n) h7
    rw [List.take_take, List.take_append_of_le_length (by omega), List.take_of_length_le (Nat.le_of_eq hl)] at this
    rw [← this]
    congr 1
    omega
theorem append_keep {w : World} {base n m c g cap : Nat} {xs l : List Int} {ad : Addr} (hown : w.ownsRow base 25 1 (.slice (some ⟨g, 0, none⟩) n cap) n (uV xs)) (hw : WordsAt w w.heap.size (some ad) l) (hl : l.length = m) (hb : base ≤ w.heap.size) (hn : n + m ≤ 100000000) :
    ∃ g' c' w', (Builtin.append_ #[22, 22] 22 #[.slice (some ⟨g, 0, none⟩) n cap, .slice (some ad) m c]).run Tryz.prog w = .ok (.slice (some ⟨g', 0, none⟩) (n + m) c') w' ∧ w'.ownsRow base 25 1 (.slice (some ⟨g', 0, none⟩) (n + m) c') (n + m) (uV (xs ++ l)) ∧
      w'.ownsRow base 25 1 (.slice (some ⟨g, 0, none⟩) n cap) n (uV xs) ∧ Below base w w' := by
  obtain ⟨i0, hi, hz0, hz1, hz2⟩ := info_parts info_u
  have hu : uV (xs ++ l) = uV xs ++ uV l := by simp [uV]
  have hxl : (uV xs).length = n := by have := hown.1; omega
  have hnews : ∀ j u, (uV l)[j]? = some u → w.cell? (ad.add j) = some u := words_news hw ad rfl
  have hbg : base ≤ g := (hown.lt g rfl).1
  by_cases hr : n + m ≤ cap
  · obtain ⟨w', h1, h2, h3⟩ := run_append_own_spare (P := Tryz.prog) w base 22 22 25 i0 1 Tryz.underlying22 hi hz1 g n cap (uV xs) hown ad m c (uV l) (by rw [uV_len, hl, Nat.mul_one]) hnews (uV_cell l) hr
    refine ⟨g, cap, w', h1, by rw [hu]; exact h2, own_shrink h2 hxl, ?_⟩
    exact (Below.refl _ w).grown h3 hb (by intro k hk; cases hk; exact hbg)
  · by_cases h0 : 0 < n + m
    · obtain ⟨v', w', h1, h2, h3⟩ := run_append_arg_grows (P := Tryz.prog) w 22 22 25 i0 (.int .u64 0) 1 8 Tryz.underlying22 hi hz0 hz1 hz2 rfl (by decide) ⟨g, 0, none⟩ n cap (uV xs) (by rw [hxl, Nat.mul_one]) (fun j u hj => by
        have hjl : j < (uV xs).length := (List.getElem?_eq_some_iff.1 hj).1
        rw [Addr.add_lit, Nat.zero_add]
        exact (hown.cellAt j (by rw [← hown.1]; exact hjl)).trans hj) ad m c (uV l) (by rw [uV_len, hl, Nat.mul_one]) hnews (by omega) (by unfold maxLen; omega) (by omega)
      obtain ⟨vo, vc, rfl, -⟩ := own_form h2
      rcases h2.2 with ⟨-, e⟩ | ⟨g', cap', cur, e, hbb, rest⟩
      · omega
      · cases e
        refine ⟨g', vc, w', h1, by rw [hu]; exact ⟨h2.1, .inr ⟨g', vc, cur, rfl, by omega, rest⟩⟩, own_later hown (below_grown0 h3), (below_grown0 h3).mono hb⟩
    · omega
theorem step_append_run {P : Program} {w : World} {ops : Array Oper} {o : Oper} {a : Act} {K : Act → World → Prop} {Q : Exit → Act → World → Prop} {E : Prop} (hgd : o.guard = none) (s x : Operand) (t tn : TypeId)
    (ho : o.op = .call { callee := .builtin .append, args := #[s, x], argTypes := #[t, tn] }) (vs vx : Value) (hs : a.eval s = vs) (hx : a.eval x = vx)
    (v' : Value) (w' : World) (hr : (Builtin.append_ #[t, tn] o.type #[vs, vx]).run P w = .ok v' w') (h : K (a.put o.dst v') w') : if Region.wanted o (yielded ops a.tmps) = true then Oper.wp P o a w K Q else E := by
  have hw : Region.wanted o (yielded ops a.tmps) = true := by simp [Region.wanted, hgd]
  rw [if_pos hw]
  exact wp_append_run w s x t tn ho vs vx hs hx v' w' hr h
/-- The tail of a list in memory. -/
theorem words_tail {w : World} {B b off : Nat} {l : List Int} (h : WordsAt w B (some ⟨b, off, none⟩) l) (k : Nat) : WordsAt w B (some ⟨b, off + k, none⟩) (l.drop k) := fun h0 => by
  obtain ⟨b', o', e, hb, hc⟩ := h (by rw [List.length_drop] at h0; omega)
  cases e
  refine ⟨b, off + k, rfl, hb, fun i hi => ?_⟩
  rw [List.length_drop] at hi
  rw [Nat.add_assoc, hc (k + i) (by omega)]
  simp [List.getD_eq_getElem?_getD, List.getElem?_drop]
theorem words_front {w : World} {B : Nat} {ao : Option Addr} {l : List Int} (h : WordsAt w B ao l) (k : Nat) : WordsAt w B ao (l.take k) := fun h0 => by
  rw [List.length_take] at h0
  obtain ⟨b, o, e, hb, hc⟩ := h (by omega)
  refine ⟨b, o, e, hb, fun i hi => ?_⟩
  rw [List.length_take] at hi
  rw [hc i (by omega)]
  simp [List.getD_eq_getElem?_getD, List.getElem?_take, show i < k by omega]
end Go.Proofs.YtkjfdaleamonaaaGreat
