/- Joined: PcC, PlA, PlB, PdH, PdF, PkA, PkB: contracts and plain laws, each with its own heading below. -/
import Derived.Test.YtkjfdaleamonaaaGreatPackAI
import Derived.Test.YtkjfdaleamonaaaGreatPackAH
import Derived.Test.YtkjfdaleamonaaaGreatPackAF
import Derived.Test.YtkjfdaleamonaaaGreatPackAG
/- The contract of pack.Compact. -/
namespace Go.Proofs.YtkjfdaleamonaaaGreat
open Go.RowKit Go.Lib Go.Sort Wd

/-- What Compact tells: the error, the words. -/
def cmpE (l : List Int) : Int := if 20000 < l.length then 7 else if l = [] then 0 else alkE l
def cmpL (l : List Int) : List Int := if cmpE l = 0 then packF (rW (l.getD 0 0).toNat) l else []
def ToldP (w : World) (L : List Int) (err : Int) (e : Ending) (w' : World) : Prop :=
  ∃ ao c, e = .returned (.tuple #[.slice ao L.length c, .int .i64 err]) ∧ w'.ownsRow w.heap.size 25 1 (.slice ao L.length c) L.length (uV L) ∧ Below w.heap.size w w'
theorem chk_sized {r : Int} : ∀ {l : List Int}, chkF r l = 0 → ∀ v ∈ l, isW v.toNat = true ∧ (rW v.toNat : Int) = r
  | [], _, v, hv => by cases hv
  | x :: l, h, v, hv => by
    unfold chkF at h
    split at h
    · next h1 =>
      split at h
      · next h2 =>
        rcases List.mem_cons.1 hv with rfl | hv
        · exact ⟨h1, h2⟩
        · exact chk_sized h v hv
      · cases h
    · cases h
theorem alk_sized {l : List Int} (h64 : In64 l) (h : alkE l = 0) (h0 : l ≠ []) : rW (l.getD 0 0).toNat ≤ 12 ∧ Sized (rW (l.getD 0 0).toNat) l := by
  unfold alkE at h
  split at h
  · next ha =>
    have hw0 : isW (l.getD 0 0).toNat = true := List.all_eq_true.1 ha _ (getD_mem (List.length_pos_iff.2 h0))
    have e : resW (l.getD 0 0).toNat = (rW (l.getD 0 0).toNat : Int) := by unfold resW; rw [if_pos hw0]
    rw [e] at h
    have hc := chk_sized h
    refine ⟨((isW_iff _).1 hw0).2.1, fun v hv => ?_⟩
    obtain ⟨c1, c2⟩ := hc v hv
    obtain ⟨d1, d2⟩ := cell_word c1
    have e2 : rW v.toNat = rW (l.getD 0 0).toNat := by omega
    have := h64 v hv
    refine ⟨zW v.toNat, by rw [← e2]; exact d1, ?_⟩
    rw [← e2, d2]; omega
  · cases h
theorem rev_row {w : World} {r c n : Nat} {vo : Option Addr} {L : List Int} (h : RowAt w r vo c L) (hn : L.length = n) (hbig : n ≤ 1000000) :
    Calls Tryz.prog 54 #[.slice vo n c] w fun e w' => e = .returned (.tuple #[]) ∧ RowAt w' r vo c L.reverse ∧ Turn (Foot r vo) w w' := by
  by_cases h0 : n = 0
  · subst h0
    obtain rfl : L = [] := List.eq_nil_of_length_eq_zero hn
    refine (rev_nil vo c w).mono ?_
    rintro e w' ⟨rfl, rfl⟩
    exact ⟨rfl, h, Turn.refl _ _⟩
  · have hnc : n ≤ c := by have := h.2.2.1; omega
    obtain ⟨g, rfl, hgr, hU⟩ := h.2.2.2.2.1 (by omega)
    refine (rev_any hU hn hnc hbig).mono ?_
    rintro e w' ⟨rfl, hU2, hT⟩
    obtain ⟨k0, k1, k2, k3, k4, k5, k6⟩ := h
    have er : w'.heap[r]? = w.heap[r]? := hT.2.2.2.2 r (World.block_lt_of_cell? w _ k0) (fun e => hgr e.symm)
    refine ⟨rfl, ⟨by rw [List.length_reverse]; exact (World.cell?_of_block (a := ⟨r, 0, none⟩) er).trans k0, fun j => (World.frozen?_of_block (a := ⟨r, j, none⟩) er).trans (k1 j), by rw [List.length_reverse]; exact k2, k3, fun _ => ⟨g, rfl, hgr, hU2⟩, fun v hv => k5 v (List.mem_reverse.1 hv), by rw [List.length_reverse]; exact k6⟩, ?_⟩
    exact hT.trans (T := fun _ => False) (Turn.refl _ _) (fun _ _ h => h.elim) |>.trans (T := fun _ => False) (Turn.refl _ _) (fun _ _ h => h.elim) |> fun h => ⟨h.1, h.2.1, h.2.2.1, h.2.2.2.1, fun k hk hs => h.2.2.2.2 k hk fun e => hs (by subst e; exact .inr ⟨0, none, rfl⟩)⟩
theorem word_lt {k : Nat} {w : Int} (h : ∃ z, okB k z = true ∧ w = (wordN k z : Int)) : ∃ u : Nat, w = u ∧ u < 18446744073709551616 := by
  obtain ⟨z, hz, rfl⟩ := h
  exact ⟨_, rfl, by have := (wordN_lt hz).1; omega⟩
theorem row_new {w : World} {so : Option Addr} {m : Nat} {L : List Int} (hL : L.length = m) (h1 : 0 < m → ∃ g, so = some ⟨g, 0, none⟩ ∧ RowU w g m L) (h2 : so = none → m = 0) (h64 : In64 L) (hm : m ≤ 1000000) : RowAt (w.alloc (.cells #[.slice so m m] 87)) w.heap.size so m L := by
  have hnew := heap_new w (.cells #[.slice so m m] 87) _ rfl
  refine ⟨by rw [hL]; exact cell_of_row _ _ 0 _ _ _ hnew, fun j => by unfold World.frozen?; rw [hnew]; simp, by omega, h2, fun h0 => ?_, h64, by omega⟩
  obtain ⟨g, e, hU⟩ := h1 h0
  exact ⟨g, e, by have := hU.1; omega, hU.kept (S := fun _ => False) (Turn.of_below ((Below.refl _ _).alloc (Nat.le_refl _) _)) fun h => h⟩
theorem own_val {w : World} {B n : Nat} {ao : Option Addr} {c : Nat} {l : List Int} (h : w.ownsRow B 25 1 (.slice ao n c) n (uV l)) (hz : 0 < n) (hl : l.length = n) : ∃ g, ao = some ⟨g, 0, none⟩ ∧ g < w.heap.size ∧ w.cell? ⟨g, 0, none⟩ = some (.int .u64 (l.getD 0 0)) := by
  obtain ⟨ao', c', e, -, h2⟩ := own_form h
  cases e
  obtain ⟨g, rfl, -, h3, h4⟩ := h2 hz
  exact ⟨g, rfl, h3, h4 0 _ (uV_get l 0 (by omega))⟩
theorem own_none {w : World} {B n c : Nat} {ao : Option Addr} {xs : List Value} (h : w.ownsRow B 25 1 (.slice ao n c) n xs) : ao = none → n = 0 ∧ c = 0 := fun e => by
  subst e
  rcases h.2 with ⟨h1, -⟩ | ⟨g, cap, cur, hv, -⟩
  · cases h1; exact ⟨rfl, rfl⟩
  · cases hv
theorem flush_none (o : List Int) (x : Int) : mFlush ⟨o, [], []⟩ x = ⟨o, [], []⟩ := by unfold mFlush; rw [if_neg (by simp)]
theorem flush_no {o g : List Int} {x : Int} (h : broB (g.getD 0 0) x = true) : mFlush ⟨o, g, []⟩ x = ⟨o, g, []⟩ := by unfold mFlush; rw [if_neg (fun h2 => by have h3 := h2.2; rw [h] at h3; cases h3)]
theorem flush_yes {o g : List Int} {x : Int} (h0 : g ≠ []) (h : broB (g.getD 0 0) x = false) : mFlush ⟨o, g, []⟩ x = ⟨o ++ g, [], []⟩ := by unfold mFlush; rw [if_pos ⟨h0, h⟩]
set_option maxRecDepth 100000 in
set_option maxHeartbeats 16000000 in
theorem compact_any (ao : Option Addr) (c : Nat) (l : List Int) (w : World) (B : Nat) (h : WordsAt w B ao l) (hB : B ≤ w.heap.size) (hn : l.length ≤ 1000000) (h64 : In64 l) :
    Calls Tryz.prog 26 #[.slice ao l.length c] w (ToldP w (cmpL l) (cmpE l)) := by
  obtain ⟨i0, hi, hz0, hz1, hz2⟩ := info_parts info_u
  have HNIL : Hid (∀ err w', Below w.heap.size w w' → cmpE l = err → err ≠ 0 → ToldP w (cmpL l) (cmpE l) (.returned (.tuple #[.slice none 0 0, .int .i64 err])) w') := fun err w' hb he h0 => by
    have : cmpL l = [] := by unfold cmpL; rw [if_neg (by rw [he]; exact h0)]
    rw [this, he]
    exact ⟨none, 0, rfl, World.ownsRow_nil _ _ _ _, hb⟩
  obtain ⟨n, hnn⟩ : ∃ n, l.length = n := ⟨_, rfl⟩
  have HN := Lib.hid hnn
  have HW := Lib.hid h
  have H64 := Lib.hid h64
  have hcase : 20000 < n ∨ (n ≤ 20000 ∧ 0 < n ∧ alkE l ≠ 0) ∨ (n ≤ 20000 ∧ n = 0) ∨ (n ≤ 20000 ∧ 0 < n ∧ alkE l = 0) := by
    by_cases h1 : 20000 < n
    · exact .inl h1
    · by_cases h2 : n = 0
      · exact .inr (.inr (.inl ⟨by omega, h2⟩))
      · by_cases h3 : alkE l = 0
        · exact .inr (.inr (.inr ⟨by omega, by omega, h3⟩))
        · exact .inr (.inl ⟨by omega, by omega, h3⟩)
  have HAL : Hid (0 < n → ∀ w, B ≤ w.heap.size → WordsAt w B ao l → Calls Tryz.prog 53 #[.slice ao n c] w fun e w' => e = .returned (.int .i64 (alkE l)) ∧ Below w.heap.size w w') := fun h0 wx hb hwx => by
    have := alike_any ao c l wx B hwx hb (by omega) (by omega) h64
    rwa [hnn] at this
  rw [hnn] at hn ⊢
  clear h h64 hnn
  rcases hcase with hbig | ⟨hs, h0, hE⟩ | hcase
  · have q1 : decide (20000 < (n : Int)) = true := decide_eq_true (by omega)
    have q1n : decide (20000 < n) = true := decide_eq_true (by omega)
    have HF := Lib.hid (HNIL.out 7 w (Below.refl _ _) (by unfold cmpE; rw [if_pos (by rw [HN.out]; exact hbig)]) (by decide))
    clear hbig
    go_enter Tryz.func26, Tryz.ntmps26
    go_wp2
    go_ret2
    exact HF.out
  · have q1 : decide (20000 < (n : Int)) = false := decide_eq_false (by omega)
    have q1n : decide (20000 < n) = false := decide_eq_false (by omega)
    have q2 : decide (0 < (n : Int)) = true := decide_eq_true (by omega)
    have q2n : decide (0 < n) = true := decide_eq_true (by omega)
    have hA := HAL.out h0 w hB HW.out
    have hF := fun w' hb => HNIL.out (alkE l) w' hb (by unfold cmpE; rw [if_neg (by rw [HN.out]; omega), if_neg (fun e => by have := HN.out; rw [e] at this; simp at this; omega)]) hE
    generalize alkE l = E at *
    have q3 : (E != 0) = true := by simp [hE]
    have HA := Lib.hid hA
    have HF := Lib.hid hF
    clear hs h0 hE hA hF
    go_enter Tryz.func26, Tryz.ntmps26
    go_wp2_with fail
    refine HA.out.mono ?_
    rintro e w1 ⟨rfl, hb1⟩
    have HFF := Lib.hid (HF.out w1 hb1)
    clear hb1
    go_wp2
    go_ret2
    exact HFF.out
  · -- words of one size
    obtain ⟨r, hr, hsz, hEr, hLr⟩ : ∃ r, r ≤ 12 ∧ Sized r l ∧ cmpE l = 0 ∧ cmpL l = packF r l := by
      rcases hcase with ⟨h1, h2⟩ | ⟨h1, h2, h3⟩
      · obtain rfl : l = [] := List.eq_nil_of_length_eq_zero (by rw [HN.out]; exact h2)
        refine ⟨rW (([] : List Int).getD 0 0).toNat, by decide, fun v hv => (by cases hv), by unfold cmpE; simp, ?_⟩
        unfold cmpL
        rw [if_pos (by unfold cmpE; simp)]
      · have hne : l ≠ [] := fun e => by have := HN.out; rw [e] at this; simp at this; omega
        have hE : cmpE l = 0 := by unfold cmpE; rw [if_neg (by rw [HN.out]; omega), if_neg hne]; exact h3
        obtain ⟨a1, a2⟩ := alk_sized H64.out h3 hne
        exact ⟨_, a1, a2, hE, by unfold cmpL; rw [if_pos hE]⟩
    have HEND : Hid (∀ (R : List Int) (w' : World) (ao : Option Addr) (c : Nat), resM r (setF l).reverse ⟨[], [], []⟩ = R → w'.ownsRow w.heap.size 25 1 (.slice ao (srt R).length c) (srt R).length (uV (srt R)) → Below w.heap.size w w' → ToldP w (cmpL l) (cmpE l) (.returned (.tuple #[.slice ao (srt R).length c, .int .i64 0])) w') := fun R w' ao c hR ho hb => by
      have e := pack_end hr hsz hR
      rw [hLr, hEr, ← e]
      exact ⟨ao, c, rfl, ho, hb⟩
    have hsl : (setF l).length ≤ n := by have := setF_length l; rw [HN.out] at this; exact this
    have HST : Hid (∀ M, M.Perm (setF l).reverse → Run (resM r (setF l).reverse ⟨[], [], []⟩) [] [] M) := fun M hM => run_start hr hsz hM
    have HUP : Hid (Dn (setF l).reverse) := (setF_up l).rev
    have HSET : Hid (∀ wx, Below w.heap.size w wx → Calls Tryz.prog 39 #[.slice ao n c] wx (SetRow wx (setF l))) := fun wx hb => by
      have := uset_row ao c l wx B (HW.out.below hb hB) (by rw [HN.out]; omega)
      rwa [HN.out] at this
    have HS64 : Hid (In64 (setF l)) := fun v hv => H64.out v ((setF_mem l v).1 hv)
    obtain ⟨R0, hR0⟩ : ∃ R0, resM r (setF l).reverse ⟨[], [], []⟩ = R0 := ⟨_, rfl⟩
    rw [hR0] at HST
    have HR0 := Lib.hid hR0
    generalize setF l = S at *
    clear hR0 hsz hEr hLr
    rcases hcase with ⟨h1, h2⟩ | ⟨h1, h2, h3⟩
    case inl =>
      subst h2
      go_enter Tryz.func26, Tryz.ntmps26
      go_upto_region 7 with (fail)
      have HBA : Hid (Below w.heap.size w w) := Below.refl _ _
      go_wp2_with fail
      refine (HSET.out _ HBA.out).mono ?_
      rintro e wS ⟨so, rfl, hs1, hs2, hs3, hbS⟩
      have HBS := Lib.hid (HBA.out.trans (hbS.mono HBA.out.size))
      have HS1 : Hid (∀ g o s, so = some ⟨g, o, s⟩ → w.heap.size ≤ g ∧ g < wS.heap.size) := fun g o s e => ⟨Nat.le_trans HBA.out.size (hs1 g o s e).1, (hs1 g o s e).2⟩
      have HS2 := Lib.hid hs2
      have HS3 := Lib.hid hs3
      clear hs1 hs2 hs3 hbS HBA HSET
      obtain ⟨m, hm⟩ : ∃ m, S.length = m := ⟨_, rfl⟩
      have HM := Lib.hid hm
      rw [hm] at hsl ⊢
      clear hm
      go_upto_region 8 with (fail)
      have hrw : RowAt (wS.alloc (.cells #[.slice so m m] 87)) wS.heap.size so m S := row_new HM.out (fun h0 => by
        obtain ⟨g, e, hU⟩ := HS2.out (by rw [HM.out]; exact h0)
        rw [HM.out] at hU
        exact ⟨g, e, hU⟩) (fun e => by rw [← HM.out]; exact HS3.out e) HS64.out (by omega)
      have HRW := Lib.hid hrw
      have HB2 : Hid (Below w.heap.size w (wS.alloc (.cells #[.slice so m m] 87))) := HBS.out.alloc HBS.out.size _
      have HR0L : Hid (w.heap.size ≤ wS.heap.size) := HBS.out.size
      clear hrw HS2 HS3 HBS
      generalize wS.alloc (.cells #[.slice so m m] 87) = w2 at *
      generalize wS.heap.size = r0 at *
      have c0 := HRW.out.head HM.out
      have HREV := Lib.hid (rev_row HRW.out HM.out (by omega))
      go_wp2_with fail
      refine HREV.out.mono ?_
      rintro e w3 ⟨rfl, hr3, ht3⟩
      have hh3 : HeapAt w3 r0 so m S.reverse := ⟨hr3, heap_dn HUP.out⟩
      have HNF : Hid (∀ k, k < w.heap.size → ¬ Foot r0 so k) := fun k hk hf => by
        rcases hf with rfl | ⟨o, s, e⟩
        · have := HR0L.out; omega
        · have := (HS1.out k o s e).1; omega
      have HB3 := Lib.hid (HB2.out.trans (ht3.below HB2.out.size HNF.out))
      have HINI := Lib.hid (hinit_any hh3)
      unfold ifc at HINI
      clear hr3 ht3 hh3 HREV c0 HRW HB2
      go_wp2_with fail
      refine HINI.out.mono ?_
      rintro e w4 ⟨rfl, hh4, ht4⟩
      have HB4 := Lib.hid (HB3.out.trans (ht4.below HB3.out.size HNF.out))
      have HP4 : Hid (PkSt w.heap.size r0 w4 (.slice none 0 0) (.slice none 0 0) [] [] S.reverse) := by
        refine ⟨⟨so, m, hh4, fun k hk => ⟨?_, ?_, by simp [Value.ownBlock], by simp [Value.ownBlock]⟩⟩, World.ownsRow_nil _ _ _ _, World.ownsRow_nil _ _ _ _, .inl rfl⟩
        · rcases Nat.lt_or_ge k w.heap.size with h | h
          · exact absurd hk (HNF.out k h)
          · exact h
        · rcases hk with rfl | ⟨o, s, e⟩
          · exact hh4.1.lt
          · have h5 := (HS1.out k o s e).2
            have h6 := hh4.1.lt
            omega
      have HRUN := Lib.hid (HST.out _ (List.Perm.refl _))
      have HLN : Hid (S.reverse.length = m) := by show _ = _; rw [List.length_reverse, HM.out]
      have HR64 : Hid (In64 S.reverse) := fun v hv => HS64.out v (by simpa using hv)
      have hm2 : m ≤ 20000 := by omega
      have hta : ∀ (x : Int) (w : World), (Instr.typeAssert (.iface 25 (.int .u64 x)) 20 25 true).run Tryz.prog w = .ok (.tuple #[.int .u64 x, .bool true]) w := fun _ _ => by kernel_rfl
      generalize S.reverse = F at *
      clear hh4 ht4 HINI HB3 HST HUP HS64 HNF HS1
      go_wp2
      go_loopg [6, 7] (8 * m) (fun q ov gv wr => ∃ (o g M : List Int) (on gn ml : Nat) (oo gg : Option Addr) (oc gc : Nat), ov = .slice oo on oc ∧ gv = .slice gg gn gc ∧ on + gn + ml ≤ m ∧ gn < 7 ∧ 8 * ml + gn ≤ q ∧ Hid (o.length = on ∧ g.length = gn ∧ M.length = ml ∧ Run R0 o g M ∧ In64 g ∧ In64 M ∧ PkSt w.heap.size r0 wr (.slice oo on oc) (.slice gg gn gc) o g M ∧ Below w.heap.size w wr))
      case atStart => exact ⟨[], [], F, 0, 0, m, none, none, 0, 0, rfl, rfl, by omega, by omega, by omega, rfl, rfl, HLN.out, HRUN.out, fun v hv => (by cases hv), HR64.out, HP4.out, HB4.out⟩
      case round =>
        obtain ⟨o, g, M, on, gn, ml, oo, gg, oc, gc, rfl, rfl, hsum, hg7, hq, HI⟩ := hrel
        have hk := HI.out.2.2.2.2.2.2.1
        obtain ⟨⟨ro, rc, hh, hf⟩, -⟩ := hk
        have c0 := hh.1.head HI.out.2.2.1
        have hr0 := hh.1.lt
        have HH := Lib.hid hh
        have HLEN := Lib.hid (plen_any ro ml rc wr)
        clear hh hf
        by_cases hml : ml = 0
        · subst hml
          have hM0 : M = [] := List.eq_nil_of_length_eq_zero HI.out.2.2.1
          have hre : R0 = o ++ g := run_end (by have := HI.out.2.2.2.1; rwa [hM0] at this)
          have HRE := Lib.hid hre
          have hown := HI.out.2.2.2.2.2.2.1.2.1
          have hgw := HI.out.2.2.2.2.2.2.1.2.2.1
          rw [HI.out.1] at hown
          rw [HI.out.2.1] at hgw
          have hbr := HI.out.2.2.2.2.2.2.2
          obtain ⟨v3, w7, hrun, hown7, hg7', hat7⟩ := append_words_at hown (words_own HI.out.2.1.symm hgw) HI.out.2.1 (own_none hgw) hbr.size (by omega)
          have HRUN7 := Lib.hid hrun
          obtain ⟨oo1, oc1, rfl, -⟩ := own_form hown7
          have hl7 : (o ++ g).length = on + gn := by rw [List.length_append, HI.out.1, HI.out.2.1]
          have hb7 := below_append hbr hown hbr.size hg7'
          have HB7 := Lib.hid hb7
          obtain ⟨nn, hnn2⟩ : ∃ nn, on + gn = nn := ⟨_, rfl⟩
          rw [hnn2] at hown7 hl7 HRUN7
          have HSORT := Lib.hid (sort_row hown7 hl7 hb7.size (by omega))
          have HL7 := Lib.hid hl7
          clear hM0 hre hown hgw hbr hrun hown7 hg7' hat7 hl7 hb7 hnn2 HH HI hsum hg7 hq
          go_wp2_with fail
          refine HLEN.out.mono ?_
          rintro e w5 ⟨rfl, rfl⟩
          go_wp2_with (at_builtin; refine wpList_append_want _ (by kernel_rfl) (.tmp 68) (.tmp 69) 22 22 rfl _ _ rfl rfl _ _ HRUN7.out ?_)
          refine HSORT.out.mono ?_
          rintro e w8 ⟨rfl, ho8, hb8⟩
          have HF : Hid (ToldP w (cmpL l) (cmpE l) (.returned (.tuple #[.slice oo1 nn oc1, .int .i64 0])) w8) := by
            have hs8 : (srt R0).length = nn := by rw [srt_length, HRE.out, HL7.out]
            have := HEND.out R0 w8 oo1 oc1 HR0.out (by rw [hs8, HRE.out]; exact ho8) (HB7.out.trans (hb8.mono (Nat.le_refl _)))
            rwa [hs8] at this
          clear ho8 hb8
          go_wp2
          go_ret2
          exact HF.out
        · exfalso
          omega
    case inr =>
      have q1 : decide (20000 < (n : Int)) = false := decide_eq_false (by omega)
      have q1n : decide (20000 < n) = false := decide_eq_false (by omega)
      have q2 : decide (0 < (n : Int)) = true := decide_eq_true (by omega)
      have q2n : decide (0 < n) = true := decide_eq_true (by omega)
      have hA := HAL.out h2 w hB HW.out
      rw [h3] at hA
      have HA := Lib.hid hA
      clear hA h3
      go_enter Tryz.func26, Tryz.ntmps26
      go_wp2_with fail
      refine HA.out.mono ?_
      rintro e wA ⟨rfl, hbA⟩
      have HBA := Lib.hid hbA
      clear hbA HA
      go_upto_region 7 with (fail)
      go_wp2_with fail
      refine (HSET.out _ HBA.out).mono ?_
      rintro e wS ⟨so, rfl, hs1, hs2, hs3, hbS⟩
      have HBS := Lib.hid (HBA.out.trans (hbS.mono HBA.out.size))
      have HS1 : Hid (∀ g o s, so = some ⟨g, o, s⟩ → w.heap.size ≤ g ∧ g < wS.heap.size) := fun g o s e => ⟨Nat.le_trans HBA.out.size (hs1 g o s e).1, (hs1 g o s e).2⟩
      have HS2 := Lib.hid hs2
      have HS3 := Lib.hid hs3
      clear hs1 hs2 hs3 hbS HBA HSET
      obtain ⟨m, hm⟩ : ∃ m, S.length = m := ⟨_, rfl⟩
      have HM := Lib.hid hm
      rw [hm] at hsl ⊢
      clear hm
      go_upto_region 8 with (fail)
      have hrw : RowAt (wS.alloc (.cells #[.slice so m m] 87)) wS.heap.size so m S := row_new HM.out (fun h0 => by
        obtain ⟨g, e, hU⟩ := HS2.out (by rw [HM.out]; exact h0)
        rw [HM.out] at hU
        exact ⟨g, e, hU⟩) (fun e => by rw [← HM.out]; exact HS3.out e) HS64.out (by omega)
      have HRW := Lib.hid hrw
      have HB2 : Hid (Below w.heap.size w (wS.alloc (.cells #[.slice so m m] 87))) := HBS.out.alloc HBS.out.size _
      have HR0L : Hid (w.heap.size ≤ wS.heap.size) := HBS.out.size
      clear hrw HS2 HS3 HBS
      generalize wS.alloc (.cells #[.slice so m m] 87) = w2 at *
      generalize wS.heap.size = r0 at *
      have c0 := HRW.out.head HM.out
      have HREV := Lib.hid (rev_row HRW.out HM.out (by omega))
      go_wp2_with fail
      refine HREV.out.mono ?_
      rintro e w3 ⟨rfl, hr3, ht3⟩
      have hh3 : HeapAt w3 r0 so m S.reverse := ⟨hr3, heap_dn HUP.out⟩
      have HNF : Hid (∀ k, k < w.heap.size → ¬ Foot r0 so k) := fun k hk hf => by
        rcases hf with rfl | ⟨o, s, e⟩
        · have := HR0L.out; omega
        · have := (HS1.out k o s e).1; omega
      have HB3 := Lib.hid (HB2.out.trans (ht3.below HB2.out.size HNF.out))
      have HINI := Lib.hid (hinit_any hh3)
      unfold ifc at HINI
      clear hr3 ht3 hh3 HREV c0 HRW HB2
      go_wp2_with fail
      refine HINI.out.mono ?_
      rintro e w4 ⟨rfl, hh4, ht4⟩
      have HB4 := Lib.hid (HB3.out.trans (ht4.below HB3.out.size HNF.out))
      have HP4 : Hid (PkSt w.heap.size r0 w4 (.slice none 0 0) (.slice none 0 0) [] [] S.reverse) := by
        refine ⟨⟨so, m, hh4, fun k hk => ⟨?_, ?_, by simp [Value.ownBlock], by simp [Value.ownBlock]⟩⟩, World.ownsRow_nil _ _ _ _, World.ownsRow_nil _ _ _ _, .inl rfl⟩
        · rcases Nat.lt_or_ge k w.heap.size with h | h
          · exact absurd hk (HNF.out k h)
          · exact h
        · rcases hk with rfl | ⟨o, s, e⟩
          · exact hh4.1.lt
          · have h5 := (HS1.out k o s e).2
            have h6 := hh4.1.lt
            omega
      have HRUN := Lib.hid (HST.out _ (List.Perm.refl _))
      have HLN : Hid (S.reverse.length = m) := by show _ = _; rw [List.length_reverse, HM.out]
      have HR64 : Hid (In64 S.reverse) := fun v hv => HS64.out v (by simpa using hv)
      have hm2 : m ≤ 20000 := by omega
      have hta : ∀ (x : Int) (w : World), (Instr.typeAssert (.iface 25 (.int .u64 x)) 20 25 true).run Tryz.prog w = .ok (.tuple #[.int .u64 x, .bool true]) w := fun _ _ => by kernel_rfl
      generalize S.reverse = F at *
      clear hh4 ht4 HINI HB3 HST HUP HS64 HNF HS1
      go_wp2
      go_loopg [6, 7] (8 * m) (fun q ov gv wr => ∃ (o g M : List Int) (on gn ml : Nat) (oo gg : Option Addr) (oc gc : Nat), ov = .slice oo on oc ∧ gv = .slice gg gn gc ∧ on + gn + ml ≤ m ∧ gn < 7 ∧ 8 * ml + gn ≤ q ∧ Hid (o.length = on ∧ g.length = gn ∧ M.length = ml ∧ Run R0 o g M ∧ In64 g ∧ In64 M ∧ PkSt w.heap.size r0 wr (.slice oo on oc) (.slice gg gn gc) o g M ∧ Below w.heap.size w wr))
      case atStart => exact ⟨[], [], F, 0, 0, m, none, none, 0, 0, rfl, rfl, by omega, by omega, by omega, rfl, rfl, HLN.out, HRUN.out, fun v hv => (by cases hv), HR64.out, HP4.out, HB4.out⟩
      case round =>
        obtain ⟨o, g, M, on, gn, ml, oo, gg, oc, gc, rfl, rfl, hsum, hg7, hq, HI⟩ := hrel
        have hk := HI.out.2.2.2.2.2.2.1
        obtain ⟨⟨ro, rc, hh, hf⟩, -⟩ := hk
        have c0 := hh.1.head HI.out.2.2.1
        have hr0 := hh.1.lt
        have HH := Lib.hid hh
        have HLEN := Lib.hid (plen_any ro ml rc wr)
        clear hh hf
        by_cases hml : ml = 0
        · subst hml
          have hM0 : M = [] := List.eq_nil_of_length_eq_zero HI.out.2.2.1
          have hre : R0 = o ++ g := run_end (by have := HI.out.2.2.2.1; rwa [hM0] at this)
          have HRE := Lib.hid hre
          have hown := HI.out.2.2.2.2.2.2.1.2.1
          have hgw := HI.out.2.2.2.2.2.2.1.2.2.1
          rw [HI.out.1] at hown
          rw [HI.out.2.1] at hgw
          have hbr := HI.out.2.2.2.2.2.2.2
          obtain ⟨v3, w7, hrun, hown7, hg7', hat7⟩ := append_words_at hown (words_own HI.out.2.1.symm hgw) HI.out.2.1 (own_none hgw) hbr.size (by omega)
          have HRUN7 := Lib.hid hrun
          obtain ⟨oo1, oc1, rfl, -⟩ := own_form hown7
          have hl7 : (o ++ g).length = on + gn := by rw [List.length_append, HI.out.1, HI.out.2.1]
          have hb7 := below_append hbr hown hbr.size hg7'
          have HB7 := Lib.hid hb7
          obtain ⟨nn, hnn2⟩ : ∃ nn, on + gn = nn := ⟨_, rfl⟩
          rw [hnn2] at hown7 hl7 HRUN7
          have HSORT := Lib.hid (sort_row hown7 hl7 hb7.size (by omega))
          have HL7 := Lib.hid hl7
          clear hM0 hre hown hgw hbr hrun hown7 hg7' hat7 hl7 hb7 hnn2 HH HI hsum hg7 hq
          go_wp2_with fail
          refine HLEN.out.mono ?_
          rintro e w5 ⟨rfl, rfl⟩
          go_wp2_with (at_builtin; refine wpList_append_want _ (by kernel_rfl) (.tmp 68) (.tmp 69) 22 22 rfl _ _ rfl rfl _ _ HRUN7.out ?_)
          refine HSORT.out.mono ?_
          rintro e w8 ⟨rfl, ho8, hb8⟩
          have HF : Hid (ToldP w (cmpL l) (cmpE l) (.returned (.tuple #[.slice oo1 nn oc1, .int .i64 0])) w8) := by
            have hs8 : (srt R0).length = nn := by rw [srt_length, HRE.out, HL7.out]
            have := HEND.out R0 w8 oo1 oc1 HR0.out (by rw [hs8, HRE.out]; exact ho8) (HB7.out.trans (hb8.mono (Nat.le_refl _)))
            rwa [hs8] at this
          clear ho8 hb8
          go_wp2
          go_ret2
          exact HF.out
        · obtain ⟨k, rfl⟩ : ∃ k, ml = k + 1 := ⟨ml - 1, by omega⟩
          have q4 : decide (0 < ((k + 1 : Nat) : Int)) = true := decide_eq_true (by omega)
          have q4n : decide (0 < k + 1) = true := decide_eq_true (by omega)
          have HPOP := Lib.hid (hpop_any HH.out HI.out.2.2.1)
          unfold ifc at HPOP
          have HMX := Lib.hid (heap_max HH.out.2)
          go_wp2_with fail
          refine HLEN.out.mono ?_
          rintro e w5 ⟨rfl, rfl⟩
          go_wp2_with fail
          refine HPOP.out.mono ?_
          intro e w5 hp
          obtain ⟨rfl, M', hperm, hpk, hbp⟩ := HI.out.2.2.2.2.2.2.1.popped HH.out HI.out.2.2.1 hp
          obtain ⟨hwd, -, hst7, hst1⟩ := run_step HI.out.2.2.2.1 hperm.symm HMX.out
          obtain ⟨kk, hk12, hwd⟩ := hwd
          obtain ⟨u, hu, hu64⟩ := word_lt hwd
          rw [hu] at hperm hst7 hst1 ⊢
          have HS7 := Lib.hid hst7
          have HS1 := Lib.hid hst1
          have HM' : Hid (M'.length = k ∧ In64 M') := ⟨by have := hperm.length_eq; rw [HI.out.2.2.1] at this; simpa using this, fun v hv => HI.out.2.2.2.2.2.1 v (hperm.subset (List.mem_cons_of_mem _ hv))⟩
          have HP5 := Lib.hid hpk
          have HB5 := Lib.hid (HI.out.2.2.2.2.2.2.2.trans hbp)
          have HG := Lib.hid HI.out.2.2.2.2.1
          have HOL : Hid (o.length = on ∧ g.length = gn) := ⟨HI.out.1, HI.out.2.1⟩
          clear hp hperm hpk hbp hwd hst7 hst1 hu HPOP HMX HLEN HH HI c0 hr0
          have hcase : (gn = 0 ∨ (0 < gn ∧ broB (g.getD 0 0) u = false)) ∨ (0 < gn ∧ broB (g.getD 0 0) u = true) := by
            by_cases h : gn = 0
            · exact .inl (.inl h)
            · cases hb : broB (g.getD 0 0) u with
              | false => exact .inl (.inr ⟨by omega, rfl⟩)
              | true => exact .inr ⟨by omega, rfl⟩
          rcases hcase with hcase | ⟨hg0, hb⟩
          · -- the group begins anew
            rcases hcase with hg0 | ⟨hg0, hb⟩
            case' inl =>
              subst hg0
              obtain rfl : g = [] := List.eq_nil_of_length_eq_zero HOL.out.2
              have q6 : decide (0 < (0 : Int)) = false := rfl
              have q6n : decide (0 < 0) = false := rfl
              rw [flush_none] at HS1
              have HPX := HP5
              have HBX := HB5
              have HXL : Hid (o.length = on) := HOL.out.1
              have HXR : Hid (Run R0 o ([] ++ [(u : Int)]) M') := HS1.out (by simp)
              have hsumX : on + 0 + (k + 1) ≤ m := hsum
              have hqX := Nat.le_trans (show 8 * (k + 1) ≤ _ from Nat.le_add_right _ _) hq
              go_upto_region 16 with (fail)
              obtain ⟨wX, rfl⟩ : ∃ wX, wX = w5 := ⟨_, rfl⟩
              clear HP5 HB5 HS1 HS7 HOL HG hsum hq
            case' inr =>
              have hne : g ≠ [] := fun e => by have := HOL.out.2; rw [e] at this; simp at this; omega
              have hown := HP5.out.2.2.1
              rw [HOL.out.2] at hown
              obtain ⟨gb, rfl, hgb, cg⟩ := own_val hown hg0 HOL.out.2
              obtain ⟨v, hv, hv64⟩ : ∃ v : Nat, g.getD 0 0 = v ∧ v < 18446744073709551616 := by
                have := HG.out _ (getD0_mem hne)
                exact ⟨(g.getD 0 0).toNat, by omega, by omega⟩
              have hbro := bro_any v u hv64 hu64
              rw [flush_yes hne hb] at HS1
              rw [hv] at cg hb
              rw [hb] at hbro
              have HBRO := Lib.hid hbro
              have q6 : decide (0 < (gn : Int)) = true := decide_eq_true (by omega)
              have q6n : decide (0 < gn) = true := decide_eq_true (by omega)
              clear hbro hb hv hown hne
              go_wp2_with fail
              refine (HBRO.out _).mono ?_
              rintro e w6 ⟨rfl, hb6⟩
              have HP6 := Lib.hid (HP5.out.later hb6)
              have HB6 := Lib.hid (HB5.out.trans (hb6.mono HB5.out.size))
              clear hb6 cg HBRO HP5 HB5
              have hown := HP6.out.2.1
              have hgw := HP6.out.2.2.1
              rw [HOL.out.1] at hown
              rw [HOL.out.2] at hgw
              obtain ⟨v3, w7, hrun, hown7, hg7', hat7⟩ := append_words_at hown (words_own HOL.out.2.symm hgw) HOL.out.2 (own_none hgw) HB6.out.size (by omega)
              have HRUN7 := Lib.hid hrun
              obtain ⟨oo1, oc1, rfl, -⟩ := own_form hown7
              have hl7 : (o ++ g).length = on + gn := by rw [List.length_append, HOL.out.1, HOL.out.2]
              have hown7' : w7.ownsRow w.heap.size 25 1 (.slice oo1 (on + gn) oc1) (o ++ g).length (uV (o ++ g)) := by rw [hl7]; exact hown7
              have HPX := Lib.hid (HP6.out.out hown7' hg7' hat7).none
              have HBX := Lib.hid (below_append HB6.out hown HB6.out.size hg7')
              have HXL := Lib.hid hl7
              have HXR : Hid (Run R0 (o ++ g) ([] ++ [(u : Int)]) M') := HS1.out (by simp)
              have hsumX : on + gn + 0 + (k + 1) ≤ m := by omega
              have hqX := Nat.le_trans (show 8 * (k + 1) ≤ _ from Nat.le_add_right _ _) hq
              clear hown hgw hrun hown7 hown7' hg7' hat7 hl7 HP6 HB6
              go_upto_region 14 with (fail)
              go_upto_region 16 with (at_builtin; refine wpList_append_want _ (by kernel_rfl) (.tmp 49) (.tmp 50) 22 22 rfl _ _ rfl rfl _ _ HRUN7.out ?_)
              obtain ⟨wX, rfl⟩ : ∃ wX, wX = w7 := ⟨_, rfl⟩
              clear HRUN7 HS1 HS7 HOL HG hsum hq
            all_goals
              have hown := HPX.out.2.2.1
              have hal : Below wX.heap.size wX (wX.alloc (.cells #[.int .u64 u] 25)) := (Below.refl _ _).alloc (Nat.le_refl _) _
              have HPA := Lib.hid (HPX.out.later hal)
              have HBA := Lib.hid (HBX.out.alloc HBX.out.size (.cells #[.int .u64 (u : Int)] 25))
              have hbs : w.heap.size ≤ (wX.alloc (.cells #[.int .u64 (u : Int)] 25)).heap.size := HBA.out.size
              have q7 : ((((0 + 1 : Nat)) : Int) == 7) = false := by decide
              clear hal
              go_wp2_with (at_builtin; refine wpList_append_own_at _ rfl (.tmp 52) (.tmp 54) 22 rfl w.heap.size 25 i0 (.int .u64 0) 1 8 Tryz.underlying22 hi hz0 hz1 hz2 rfl (by decide) _ 0 [] rfl (hown.alloc _) ⟨wX.heap.size, 0, none⟩ 1 1 [.int .u64 u] rfl rfl (cells_new _ _ _ _ rfl) (by simp [Value.oneCell']) (by unfold maxLen; omega) (by omega) hbs ?_; intro v8 w8 hown8 hg8 _ hat8; have HX8 := Lib.hid (And.intro hown8 (And.intro hg8 hat8)); obtain ⟨gg3, gc3, hv8, -⟩ := own_form hown8; clear hown8 hg8 hat8; subst hv8)
              obtain ⟨hown8, hg8, hat8⟩ := HX8.out
              have HP8 := Lib.hid (HPA.out.grp (g' := [(u : Int)]) hown8 hg8 hat8)
              have HB8 := Lib.hid (below_append HBA.out HPA.out.2.2.1 hbs hg8)
              have HGL : Hid (In64 [(u : Int)]) := fun v hv => by rw [List.mem_singleton.1 hv]; omega
              clear hown hown8 hg8 hat8 hbs HPA HBA HPX HBX hta HX8
              go_roundg (8 * k + 1)
              case measure => omega
              case rel => exact ⟨_, [(u : Int)], M', _, 1, k, _, gg3, _, gc3, rfl, rfl, by omega, by omega, by omega, HXL.out, rfl, HM'.out.1, HXR.out, HGL.out, HM'.out.2, HP8.out, HB8.out⟩
          · -- a brother more
            have hne : g ≠ [] := fun e => by have := HOL.out.2; rw [e] at this; simp at this; omega
            have hown := HP5.out.2.2.1
            rw [HOL.out.2] at hown
            obtain ⟨gb, rfl, hgb, cg⟩ := own_val hown hg0 HOL.out.2
            obtain ⟨v, hv, hv64⟩ : ∃ v : Nat, g.getD 0 0 = v ∧ v < 18446744073709551616 := by
              have := HG.out _ (getD0_mem hne)
              exact ⟨(g.getD 0 0).toNat, by omega, by omega⟩
            have hbro := bro_any v u hv64 hu64
            rw [flush_no hb, HOL.out.2] at HS1 HS7
            rw [hv] at cg hb
            rw [hb] at hbro
            have HBRO := Lib.hid hbro
            have q6 : decide (0 < (gn : Int)) = true := decide_eq_true (by omega)
            have q6n : decide (0 < gn) = true := decide_eq_true (by omega)
            clear hbro hb hv hown hne
            go_wp2_with fail
            refine (HBRO.out _).mono ?_
            rintro e w6 ⟨rfl, hb6⟩
            have HP6 := Lib.hid (HP5.out.later hb6)
            have HB6 := Lib.hid (HB5.out.trans (hb6.mono HB5.out.size))
            clear hb6 cg HBRO HP5 HB5
            have hown := HP6.out.2.2.1
            rw [HOL.out.2] at hown
            have hal : Below w6.heap.size w6 (w6.alloc (.cells #[.int .u64 u] 25)) := (Below.refl _ _).alloc (Nat.le_refl _) _
            have HPA := Lib.hid (HP6.out.later hal)
            have HBA := Lib.hid (HB6.out.alloc HB6.out.size (.cells #[.int .u64 (u : Int)] 25))
            have hbs : w.heap.size ≤ (w6.alloc (.cells #[.int .u64 (u : Int)] 25)).heap.size := HBA.out.size
            have hownA := hown.alloc (.cells #[.int .u64 (u : Int)] 25)
            clear hal
            by_cases h7 : gn + 1 = 7
            · have q7 : (((gn + 1 : Nat) : Int) == 7) = true := by rw [h7]; rfl
              have q7' : ((gn : Int) + 1 == 7) = true := by rw [beq_iff_eq]; omega
              go_wp2_with (at_builtin; refine wpList_append_own_at _ rfl (.tmp 52) (.tmp 54) 22 rfl w.heap.size 25 i0 (.int .u64 0) 1 8 Tryz.underlying22 hi hz0 hz1 hz2 rfl (by decide) _ gn (uV g) rfl hownA ⟨w6.heap.size, 0, none⟩ 1 1 [.int .u64 u] rfl rfl (cells_new _ _ _ _ rfl) (by simp [Value.oneCell']) (by unfold maxLen; omega) (by omega) hbs ?_; intro v8 w8 hown8 hg8 _ hat8; have HX8 := Lib.hid (And.intro hown8 (And.intro hg8 hat8)); obtain ⟨gg3, gc3, hv8, -⟩ := own_form hown8; clear hown8 hg8 hat8; subst hv8)
              obtain ⟨hown8, hg8, hat8⟩ := HX8.out
              have hl8 : (g ++ [(u : Int)]).length = gn + 1 := by rw [List.length_append, HOL.out.2]; rfl
              have hown8' : w8.ownsRow w.heap.size 25 1 (.slice gg3 (gn + 1) gc3) (g ++ [(u : Int)]).length (uV (g ++ [(u : Int)])) := by rw [hl8, uV_snoc]; exact hown8
              have HP8 := Lib.hid (HPA.out.grp (g' := g ++ [(u : Int)]) hown8' hg8 hat8)
              have HB8 := Lib.hid (below_append HBA.out hownA hbs hg8)
              have HL8 := Lib.hid hl8
              have HGL : Hid (In64 (g ++ [(u : Int)])) := fun v hv => by
                rcases List.mem_append.1 hv with h | h
                · exact HG.out v h
                · rw [List.mem_singleton.1 h]; omega
              clear hown hown8 hown8' hg8 hat8 hbs HPA HBA HP6 HB6 hta hl8 hownA
              have HXR : Hid (Run R0 o [] (parI u :: M')) := HS7.out h7
              have hipar := ipar_any u hu64
              have hpi : parI (u : Int) = (parW u : Int) := by unfold parI; rw [Int.toNat_natCast]
              rw [hpi] at HXR
              have hpw := parW_lt u
              obtain ⟨pw, hpw2⟩ : ∃ pw, parW u = pw := ⟨_, rfl⟩
              obtain ⟨pe, hpe⟩ : ∃ pe, parE u = pe := ⟨_, rfl⟩
              rw [hpw2] at hipar HXR hpw
              rw [hpe] at hipar
              have HIP := Lib.hid hipar
              clear hipar hpi hpw2 hpe HS1 HS7 h7
              refine (HIP.out _).mono ?_
              rintro e w9 ⟨rfl, hb9⟩
              have HP9 := Lib.hid (HP8.out.later hb9)
              have HB9 := Lib.hid (HB8.out.trans (hb9.mono HB8.out.size))
              clear hb9 HIP HP8 HB8
              obtain ⟨⟨ro2, rc2, hh2, -⟩, -⟩ := HP9.out
              have HH2 := Lib.hid hh2
              have HPU := Lib.hid (hpush_any hh2 (pw : Int) ⟨by omega, by omega⟩ (by rw [HM'.out.1]; omega))
              unfold ifc at HPU
              clear hh2
              go_wp2_with fail
              refine HPU.out.mono ?_
              intro e w10 hp
              obtain ⟨rfl, M2, hperm2, hpk2, hbp2⟩ := HP9.out.pushed HH2.out hp
              have HM2 : Hid (M2.length = k + 1 ∧ In64 M2) := ⟨by have := hperm2.length_eq; rw [List.length_cons, HM'.out.1] at this; exact this, fun v hv => by
                rcases List.mem_cons.1 (hperm2.subset hv) with h | h
                · rw [h]; omega
                · exact HM'.out.2 v h⟩
              have HX2 : Hid (Run R0 o [] M2) := by
                obtain ⟨r', s0, P, A, u', k1, k2, k3, k4, k5, k6, k7, k8, k9⟩ := HXR.out
                exact ⟨r', s0, P, A, u', k1, k2, k3, k4, k5, k6, k7, hperm2.trans k8, k9⟩
              have HP10 := Lib.hid hpk2.none
              have HB10 := Lib.hid (HB9.out.trans hbp2)
              have hq8 := Nat.lt_of_lt_of_le (show 8 * (k + 1) < 8 * (k + 1) + gn by omega) hq
              clear hp hperm2 hpk2 hbp2 HPU HH2 HP9 HB9 HXR hq
              go_wp2
              go_roundg (8 * (k + 1))
              case measure => omega
              case rel => exact ⟨o, [], M2, on, 0, k + 1, oo, none, oc, 0, rfl, rfl, by omega, by omega, by omega, HOL.out.1, rfl, HM2.out.1, HX2.out, fun v hv => (by cases hv), HM2.out.2, HP10.out, HB10.out⟩
            · have q7 : (((gn + 1 : Nat) : Int) == 7) = false := by rw [beq_eq_false_iff_ne]; omega
              have q7' : ((gn : Int) + 1 == 7) = false := by rw [beq_eq_false_iff_ne]; omega
              go_wp2_with (at_builtin; refine wpList_append_own_at _ rfl (.tmp 52) (.tmp 54) 22 rfl w.heap.size 25 i0 (.int .u64 0) 1 8 Tryz.underlying22 hi hz0 hz1 hz2 rfl (by decide) _ gn (uV g) rfl hownA ⟨w6.heap.size, 0, none⟩ 1 1 [.int .u64 u] rfl rfl (cells_new _ _ _ _ rfl) (by simp [Value.oneCell']) (by unfold maxLen; omega) (by omega) hbs ?_; intro v8 w8 hown8 hg8 _ hat8; have HX8 := Lib.hid (And.intro hown8 (And.intro hg8 hat8)); obtain ⟨gg3, gc3, hv8, -⟩ := own_form hown8; clear hown8 hg8 hat8; subst hv8)
              obtain ⟨hown8, hg8, hat8⟩ := HX8.out
              have hl8 : (g ++ [(u : Int)]).length = gn + 1 := by rw [List.length_append, HOL.out.2]; rfl
              have hown8' : w8.ownsRow w.heap.size 25 1 (.slice gg3 (gn + 1) gc3) (g ++ [(u : Int)]).length (uV (g ++ [(u : Int)])) := by rw [hl8, uV_snoc]; exact hown8
              have HP8 := Lib.hid (HPA.out.grp (g' := g ++ [(u : Int)]) hown8' hg8 hat8)
              have HB8 := Lib.hid (below_append HBA.out hownA hbs hg8)
              have HL8 := Lib.hid hl8
              have HGL : Hid (In64 (g ++ [(u : Int)])) := fun v hv => by
                rcases List.mem_append.1 hv with h | h
                · exact HG.out v h
                · rw [List.mem_singleton.1 h]; omega
              clear hown hown8 hown8' hg8 hat8 hbs HPA HBA HP6 HB6 hta hl8 hownA
              have HXR : Hid (Run R0 o (g ++ [(u : Int)]) M') := HS1.out h7
              clear HS1 HS7
              have h7' : gn + 1 < 7 := by omega
              clear h7
              go_roundg (8 * k + (gn + 1))
              case measure => omega
              case rel => exact ⟨o, _, M', on, gn + 1, k, oo, gg3, oc, gc3, rfl, rfl, by omega, by omega, by omega, HOL.out.1, HL8.out, HM'.out.1, HXR.out, HGL.out, HM'.out.2, HP8.out, HB8.out⟩
end Go.Proofs.YtkjfdaleamonaaaGreat
/- Plain laws of packing: cells within a cell, level by level; what is told of words of one size. -/
namespace Go.Proofs.YtkjfdaleamonaaaGreat
open Go.RowKit Go.Lib Wd

theorem sized_word {r : Nat} {v : Int} (h : ∃ z, okB r z = true ∧ v = (wordN r z : Int)) : isW v.toNat = true ∧ rW v.toNat = r ∧ v = (wordN r (zW v.toNat) : Int) ∧ okB r (zW v.toNat) = true := by
  obtain ⟨z, hz, rfl⟩ := h
  obtain ⟨a, b, c⟩ := word_cell hz
  rw [Int.toNat_natCast]
  exact ⟨a, b, by rw [c], by rw [c]; exact hz⟩
theorem sized_all {r : Nat} {l : List Int} (h : Sized r l) : allW l = true := List.all_eq_true.2 fun v hv => (sized_word (h v hv)).1
theorem sized_64 {r : Nat} {l : List Int} (h : Sized r l) : In64 l := fun v hv => by
  obtain ⟨z, hz, rfl⟩ := h v hv
  have := (wordN_lt hz).1
  omega
theorem sized_chk {r : Nat} : ∀ {l : List Int}, Sized r l → chkF r l = 0
  | [], _ => rfl
  | v :: l, h => by
    obtain ⟨a, b, -⟩ := sized_word (h v List.mem_cons_self)
    unfold chkF
    rw [if_pos a, if_pos (by omega)]
    exact sized_chk fun u hu => h u (List.mem_cons_of_mem _ hu)
theorem sized_le {r : Nat} {l : List Int} (h : Sized r l) (h0 : l ≠ []) : r ≤ 12 := by
  obtain ⟨z, hz, -⟩ := h _ (getD_mem (List.length_pos_iff.2 h0))
  exact (okB_parts hz).1
theorem sized_cmp {r : Nat} {l : List Int} (h : Sized r l) (hl : l.length ≤ 20000) : cmpE l = 0 ∧ (l ≠ [] → cmpL l = packF r l) ∧ (l = [] → cmpL l = []) := by
  have hE : cmpE l = 0 := by
    unfold cmpE
    rw [if_neg (by omega)]
    by_cases h0 : l = []
    · rw [if_pos h0]
    · rw [if_neg h0]
      obtain ⟨a, b, -⟩ := sized_word (h _ (getD_mem (List.length_pos_iff.2 h0)))
      unfold alkE
      rw [if_pos (sized_all h), show resW (l.getD 0 0).toNat = (r : Int) by unfold resW; rw [if_pos a, b]]
      exact sized_chk h
  refine ⟨hE, fun h0 => ?_, fun h0 => ?_⟩
  · unfold cmpL
    rw [if_pos hE, (sized_word (h _ (getD_mem (List.length_pos_iff.2 h0)))).2.1]
  · subst h0
    unfold cmpL packF
    rw [if_pos hE]
    have e : ∀ r, packN r (setF []) = [] := fun r => by
      have es : setF ([] : List Int) = [] := List.eq_nil_iff_forall_not_mem.2 fun x hx => by have := (setF_mem [] x).1 hx; cases this
      rw [es]
      induction r with
      | zero => rfl
      | succ r ih => show doneL [] ++ packN r (nextL []) = []; rw [next_nil, ih]; rfl
    rw [e]
    exact List.eq_nil_iff_forall_not_mem.2 fun x hx => by have := (setF_mem [] x).1 hx; cases this
/-- The words of a size within a cell, by their ancestors. -/
theorem ds_mem : ∀ (d k : Nat) (z : E2), k + d ≤ 12 → okB k z = true → ∀ x : Int, x ∈ dsN d k z ↔ ∃ y, okB (k + d : Nat) y = true ∧ upN d y = z ∧ x = (wordN (k + d) y : Int)
  | 0, k, z, _, hz, x => by
    constructor
    · intro hx
      have hx : x = (wordN k z : Int) := List.mem_singleton.1 hx
      exact ⟨z, hz, rfl, hx⟩
    · rintro ⟨y, hy, e, rfl⟩
      have e : y = z := e
      subst e
      exact List.mem_singleton.2 rfl
  | d + 1, k, z, hk, hz, x => by
    show x ∈ (List.range 7).flatMap (fun i => dsN d (k + 1) (downE z i)) ↔ _
    rw [List.mem_flatMap]
    constructor
    · rintro ⟨i, hi, hx⟩
      have hi7 := List.mem_range.1 hi
      obtain ⟨y, hy, e, rfl⟩ := (ds_mem d (k + 1) (downE z i) (by omega) (kid_ok hz (by omega) hi7) x).1 hx
      refine ⟨y, by rw [show k + (d + 1) = k + 1 + d by omega]; exact hy, ?_, by rw [show k + (d + 1) = k + 1 + d by omega]⟩
      rw [upN_up, e, upE_down z hi7]
    · rintro ⟨y, hy, e, rfl⟩
      rw [upN_up] at e
      refine ⟨digE (upN d y), List.mem_range.2 (digE_lt _), ?_⟩
      have hdn : downE z (digE (upN d y)) = upN d y := by rw [← e]; exact down_up _
      have hy' : okB (k + 1 + d : Nat) y = true := by rw [show k + 1 + d = k + (d + 1) by omega]; exact hy
      rw [hdn]
      exact (ds_mem d (k + 1) (upN d y) (by omega) (upN_ok d hy') _).2 ⟨y, hy', rfl, by rw [show k + (d + 1) = k + 1 + d by omega]⟩
theorem ds_len : ∀ (d k : Nat) (z : E2), (dsN d k z).length = 7 ^ d
  | 0, _, _ => rfl
  | d + 1, k, z => by
    show ((List.range 7).flatMap (fun i => dsN d (k + 1) (downE z i))).length = _
    rw [List.length_flatMap, show List.range 7 = [0, 1, 2, 3, 4, 5, 6] from rfl]
    simp only [List.map_cons, List.map_nil, List.sum_cons, List.sum_nil, ds_len d]
    rw [Nat.pow_succ]
    omega
theorem ds_sized {d k : Nat} {z : E2} (hk : k + d ≤ 12) (hz : okB k z = true) : Sized (k + d) (dsN d k z) := fun x hx => by
  obtain ⟨y, hy, -, rfl⟩ := (ds_mem d k z hk hz x).1 hx
  exact ⟨y, hy, rfl⟩
/-- Words of children lie apart as the cells' words do; whatever lies within. -/
theorem ds_apart (d : Nat) : ∀ (k : Nat) {y z : E2}, k + d ≤ 12 → okB k y = true → okB k z = true → wordN k y < wordN k z → ∀ a ∈ dsN d k y, ∀ b ∈ dsN d k z, a < b := by
  induction d with
  | zero =>
    intro k y z _ _ _ h a ha b hb
    have ha : a = (wordN k y : Int) := List.mem_singleton.1 ha
    have hb : b = (wordN k z : Int) := List.mem_singleton.1 hb
    rw [ha, hb]
    exact Int.ofNat_lt.2 h
  | succ d ih =>
    intro k y z hk hy hz h a ha b hb
    obtain ⟨i, hi, ha⟩ := List.mem_flatMap.1 (show a ∈ (List.range 7).flatMap (fun i => dsN d (k + 1) (downE y i)) from ha)
    obtain ⟨j, hj, hb⟩ := List.mem_flatMap.1 (show b ∈ (List.range 7).flatMap (fun i => dsN d (k + 1) (downE z i)) from hb)
    have hi := List.mem_range.1 hi
    have hj := List.mem_range.1 hj
    exact ih (k + 1) (by omega) (kid_ok hy (by omega) hi) (kid_ok hz (by omega) hj) (kids_apart (by omega) h hi hj) a ha b hb
theorem kid_less {k : Nat} (hk : k + 1 ≤ 12) (z : E2) {i j : Nat} (hij : i < j) (hj : j < 7) : wordN (k + 1) (downE z i) < wordN (k + 1) (downE z j) := by
  have h1 := word_kid (z := z) hk (show i < 7 by omega)
  have h2 := word_kid (z := z) hk hj
  have hu : 0 < (8 : Nat) ^ (11 - k) := Nat.pow_pos (by decide)
  have h3 : (7 - j) * 8 ^ (11 - k) + 8 ^ (11 - k) ≤ (7 - i) * 8 ^ (11 - k) := by rw [← Nat.succ_mul]; exact Nat.mul_le_mul_right _ (by omega)
  omega
theorem ds_up : ∀ (d k : Nat) (z : E2), k + d ≤ 12 → okB k z = true → Up (dsN d k z)
  | 0, _, _, _, _ => List.pairwise_singleton _ _
  | d + 1, k, z, hk, hz => by
    show Up ((List.range 7).flatMap (fun i => dsN d (k + 1) (downE z i)))
    refine List.pairwise_flatMap.2 ⟨fun i hi => ds_up d (k + 1) _ (by omega) (kid_ok hz (by omega) (List.mem_range.1 hi)), ?_⟩
    refine (List.pairwise_lt_range (n := 7)).imp_of_mem fun {i j} hi hj hij => ?_
    have hi := List.mem_range.1 hi
    have hj := List.mem_range.1 hj
    exact ds_apart d (k + 1) (by omega) (kid_ok hz (by omega) hi) (kid_ok hz (by omega) hj) (kid_less (by omega) z hij hj)
/-- One word, spread. -/
theorem one_size {k : Nat} {z : E2} (hz : okB k z = true) {R : Nat} (hR : R ≤ 12) (hk : k ≤ R) : szE [(wordN k z : Int)] R = 0 ∧ sumS R [(wordN k z : Int)] = 7 ^ (R - k) := by
  obtain ⟨a, b, c⟩ := word_cell hz
  have hs : sumS R [(wordN k z : Int)] = 7 ^ (R - k) := by simp only [sumS, Int.toNat_natCast, b]; omega
  refine ⟨?_, hs⟩
  have h7 := seven_le (k := R - k) (by omega)
  unfold szE
  rw [Int.toNat_natCast, hs, if_neg (by unfold allW; simp [a]), if_neg (by simp [b]; omega), if_neg (by omega), if_neg (by omega)]
theorem one_spread {k : Nat} {z : E2} (hz : okB k z = true) {R : Nat} (hR : R ≤ 12) (hk : k ≤ R) (h5 : R - k ≤ 5) : sprE [(wordN k z : Int)] R = 0 ∧ sprL [(wordN k z : Int)] R = dsN (R - k) k z := by
  obtain ⟨h1, h2⟩ := one_size hz hR hk
  obtain ⟨a, b, c⟩ := word_cell hz
  have h7 : 7 ^ (R - k) ≤ 7 ^ 5 := Nat.pow_le_pow_right (by decide) h5
  have hE : sprE [(wordN k z : Int)] R = 0 := by unfold sprE; rw [if_pos h1, Int.toNat_natCast, h2, if_neg (by omega)]
  refine ⟨hE, ?_⟩
  unfold sprL
  rw [if_pos hE, Int.toNat_natCast]
  simp only [List.flatMap_cons, List.flatMap_nil, List.append_nil, dsV, Int.toNat_natCast, b, c]
  exact setF_up_eq (ds_up _ _ _ (by omega) hz)
end Go.Proofs.YtkjfdaleamonaaaGreat
/- Plain laws of packing: all of a cell comes to the cell; what is free. -/
namespace Go.Proofs.YtkjfdaleamonaaaGreat
open Go.RowKit Go.Lib Wd

theorem packN_nil : ∀ r, packN r [] = []
  | 0 => rfl
  | r + 1 => by show doneL [] ++ packN r (nextL []) = []; rw [next_nil, packN_nil r]; rfl
theorem upN_one (d : Nat) (y : E2) : upN d (upE y) = upN (d + 1) y := by
  have := upN_add d 1 y
  rw [show 1 + d = d + 1 by omega] at this
  exact this
/-- Nothing is full: nothing goes up. -/
theorem pack_none {r : Nat} {A : List Int} (h : ∀ v ∈ A, fullB A v = false) : packN (r + 1) A = A := by
  show doneL A ++ packN r (nextL A) = A
  have e1 : doneL A = A := List.filter_eq_self.2 fun v hv => by rw [h v hv]; rfl
  have e2 : nextL A = [] := by
    unfold nextL
    rw [List.filter_eq_nil_iff.2 fun v hv => by rw [h v hv]; simp]
    exact List.eq_nil_iff_forall_not_mem.2 fun x hx => by have := (setF_mem _ x).1 hx; cases this
  rw [e1, e2, packN_nil, List.append_nil]
theorem not_full {r : Nat} {A : List Int} (hs : Sized r A) (hl : A.length < 7) (hu : Up A) : ∀ v ∈ A, fullB A v = false := fun v hv => by
  rw [← Bool.not_eq_true]
  intro hf
  cases r with
  | zero =>
    obtain ⟨z, hz, rfl⟩ := hs v hv
    obtain ⟨a1, a2, -⟩ := word_cell hz
    unfold fullB parE at hf
    rw [Int.toNat_natCast, if_pos a1, if_pos a2] at hf
    simp at hf
  | succ r =>
    have hr : r + 1 ≤ 12 := sized_le hs (fun e => by rw [e] at hv; cases hv)
    obtain ⟨-, p, hp, -, hk⟩ := word_parts (hs v hv)
    have hall := (full_iff hr hp hk).1 hf
    have hsub : (kidsW r (wordN r p)).length ≤ A.length := by
      have e : kidsW r (wordN r p) = A.filter fun v => (kidsW r (wordN r p)).contains v := by
        refine (kids_up hr p).ext (filter_up hu _) fun x => ?_
        rw [List.mem_filter, List.contains_iff_mem]
        exact ⟨fun h => ⟨hall x h, h⟩, fun h => h.2⟩
      rw [e]
      exact List.length_filter_le _ _
    rw [kidsW_len] at hsub
    omega
theorem packN_one (r : Nat) {z : E2} (hz : okB r z = true) : packN r [(wordN r z : Int)] = [(wordN r z : Int)] := by
  cases r with
  | zero => rfl
  | succ r => exact pack_none (not_full (r := r + 1) (fun v hv => ⟨z, hz, List.mem_singleton.1 hv⟩) (by simp) (List.pairwise_singleton _ _))
/-- All of a cell comes to the cell. -/
theorem packN_ds : ∀ (d k : Nat) {z : E2}, k + d ≤ 12 → okB k z = true → packN (k + d) (dsN d k z) = [(wordN k z : Int)]
  | 0, k, z, _, hz => packN_one k hz
  | d + 1, k, z, hk, hz => by
    have hup := ds_up (d + 1) k z hk hz
    have hsz : Sized (k + d + 1) (dsN (d + 1) k z) := ds_sized hk hz
    have key : ∀ p, okB (k + d : Nat) p = true → (upN d p = z ↔ ∀ u ∈ kidsW (k + d) (wordN (k + d) p), u ∈ dsN (d + 1) k z) := fun p hp => by
      constructor
      · intro e u hu
        obtain ⟨i, hi, rfl⟩ := (kidsW_mem (by omega) u).1 hu
        refine (ds_mem (d + 1) k z hk hz _).2 ⟨downE p i, kid_ok hp (by omega) hi, ?_, rfl⟩
        rw [← upN_one, upE_down p hi, e]
      · intro hall
        have h0 := hall (wordN (k + d + 1) (downE p 0) : Int) ((kidsW_mem (by omega) _).2 ⟨0, by omega, rfl⟩)
        obtain ⟨y, hy, e, e2⟩ := (ds_mem (d + 1) k z hk hz _).1 h0
        have e3 : downE p 0 = y := (word_inj (r := k + d + 1) (s := k + (d + 1)) (kid_ok hp (by omega) (by omega)) hy (by omega)).2
        rw [← e3, ← upN_one, upE_down p (by omega)] at e
        exact e
    have hfull : ∀ v ∈ dsN (d + 1) k z, fullB (dsN (d + 1) k z) v = true := fun v hv => by
      obtain ⟨-, p, hp, -, hkw⟩ := word_parts (hsz v hv)
      refine (full_iff (by omega) hp hkw).2 ((key p hp).1 ?_)
      obtain ⟨y, hy, e, e2⟩ := (ds_mem (d + 1) k z hk hz v).1 hv
      obtain ⟨i, hi, e4⟩ := (kidsW_mem (by omega) v).1 hkw
      have e3 : downE p i = y := (word_inj (r := k + d + 1) (s := k + (d + 1)) (kid_ok hp (by omega) hi) hy (by omega)).2
      rw [← e3, ← upN_one, upE_down p hi] at e
      exact e
    have e1 : doneL (dsN (d + 1) k z) = [] := List.filter_eq_nil_iff.2 fun v hv => by rw [hfull v hv]; simp
    have e2 : nextL (dsN (d + 1) k z) = dsN d k z := by
      refine Up.ext (setF_up _) (ds_up d k z (by omega) hz) fun q => ?_
      rw [next_mem (r := k + d) (by omega) hsz, ds_mem d k z (by omega) hz]
      constructor
      · rintro ⟨p, hp, e, h⟩
        exact ⟨p, hp, (key p hp).2 h, e⟩
      · rintro ⟨p, hp, h, e⟩
        exact ⟨p, hp, e, (key p hp).1 h⟩
    show packN (k + d + 1) _ = _
    show doneL _ ++ packN (k + d) (nextL _) = _
    rw [e1, e2, List.nil_append]
    exact packN_ds d k (by omega) hz
theorem packF_ds {d k : Nat} {z : E2} (hk : k + d ≤ 12) (hz : okB k z = true) : packF (k + d) (dsN d k z) = [(wordN k z : Int)] := by
  unfold packF
  rw [setF_up_eq (ds_up d k z hk hz), packN_ds d k hk hz]
  exact setF_up_eq (List.pairwise_singleton _ _)
theorem free_sized {r : Nat} {l : List Int} (hs : Sized r l) (hn : l.Nodup) : freeB l = true := by
  unfold freeB
  rw [sized_all hs, decide_eq_true hn]
  simp only [Bool.true_and]
  rw [List.all_eq_true]
  intro v hv
  rw [List.all_eq_true]
  intro j hj
  obtain ⟨a, b, c, e⟩ := sized_word (hs v hv)
  rw [b] at hj
  have hj := List.mem_range.1 hj
  have : ancW v j ∉ l := fun hm => by
    have h1 : okB j (upN (r - j) (zW v.toNat)) = true := upN_ok _ (by rw [show j + (r - j) = r by omega]; exact e)
    have := sized_unlike (hs _ hm) (s := j) ⟨_, h1, by unfold ancW; rw [b]⟩
    omega
  simpa using this
theorem free_anc {l : List Int} {v : Int} {j : Nat} (hv : v ∈ l) (hj : j < rW v.toNat) (hm : ancW v j ∈ l) : freeB l = false := by
  unfold freeB
  have : (l.all fun v => (List.range (rW v.toNat)).all fun j => !l.contains (ancW v j)) = false := by
    rw [List.all_eq_false]
    refine ⟨_, hv, ?_⟩
    rw [Bool.not_eq_true, List.all_eq_false]
    exact ⟨j, List.mem_range.2 hj, by rw [List.contains_iff_mem.2 hm]; simp⟩
  rw [this]; simp
theorem free_twice {l : List Int} (h : ¬ l.Nodup) : freeB l = false := by
  unfold freeB
  rw [decide_eq_false h]; simp
/-- The children of a cell, as words. -/
theorem kids_ds {k : Nat} {z : E2} (hk : k + 1 ≤ 12) : kidsW k (wordN k z) = dsN 1 k z := by
  show _ = (List.range 7).flatMap (fun i => dsN 0 (k + 1) (downE z i))
  have e : ∀ i, dsN 0 (k + 1) (downE z i) = [(wordN (k + 1) (downE z i) : Int)] := fun _ => rfl
  simp only [e]
  unfold kidsW
  rw [show List.range 7 = [0, 1, 2, 3, 4, 5, 6] from rfl]
  have h := fun i (hi : i < 7) => word_kid (z := z) hk hi
  have h0 := h 0 (by omega)
  have h1 := h 1 (by omega)
  have h2 := h 2 (by omega)
  have h3 := h 3 (by omega)
  have h4 := h 4 (by omega)
  have h5 := h 5 (by omega)
  have h6 := h 6 (by omega)
  clear h
  generalize (8 : Nat) ^ (11 - k) = u at *
  simp only [List.map_cons, List.map_nil, List.flatMap_cons, List.flatMap_nil, List.append_nil, List.singleton_append, List.cons.injEq, and_true]
  omega
/-- A child lies within its cell. -/
theorem free_kid {k : Nat} {z : E2} (hk : k + 1 ≤ 12) (hz : okB k z = true) {l : List Int} (h1 : (wordN k z : Int) ∈ l) {v : Int} (hv : v ∈ l) (hkv : v ∈ kidsW k (wordN k z)) : freeB l = false := by
  obtain ⟨d, hd, rfl⟩ := (kidsW_mem hk v).1 hkv
  obtain ⟨a, b, c⟩ := word_cell (kid_ok hz hk hd)
  refine free_anc (j := k) hv (by rw [Int.toNat_natCast, b]; omega) ?_
  unfold ancW
  rw [Int.toNat_natCast, b, c, show k + 1 - k = 1 by omega]
  show ((wordN k (upE (downE z d)) : Nat) : Int) ∈ l
  rw [upE_down z hd]
  exact h1
end Go.Proofs.YtkjfdaleamonaaaGreat
/- The contract of pack.Spread: its walk. -/
namespace Go.Proofs.YtkjfdaleamonaaaGreat
open Go.RowKit Go.Lib Wd

set_option maxRecDepth 100000 in
set_option maxHeartbeats 16000000 in
theorem spread_any (ao : Option Addr) (c : Nat) (l : List Int) (r : Int) (w : World) (B : Nat) (h : WordsAt w B ao l) (hB : B ≤ w.heap.size) (hn : l.length ≤ 1000000) (h64 : In64 l) :
    Calls Tryz.prog 25 #[.slice ao l.length c, .int .i64 r] w (ToldS w (sprL l r) (sprE l r)) := by
  obtain ⟨i0, hi, hz0, hz1, hz2⟩ := info_parts info_u
  obtain ⟨i1, hj, hy0, hy1, hy2⟩ := info_parts info_c
  have HNIL : Hid (∀ err w', Below w.heap.size w w' → sprE l r = err → err ≠ 0 → ToldS w (sprL l r) (sprE l r) (.returned (.tuple #[.slice none 0 0, .int .i64 err])) w') := fun err w' hb he h0 => by
    have : sprL l r = [] := by unfold sprL; rw [if_neg (by rw [he]; exact h0)]
    rw [this, he]
    exact ⟨none, 0, rfl, fun _ => rfl, fun h => by simp at h, hb⟩
  have HALL := Lib.hid (fun wx hb => all_any ao c l wx B (h.below (C := w.heap.size) hb hB) (Nat.le_trans hB (Below.size hb)) hn h64)
  have hsz := psize_any ao c l r w B h hB hn h64
  obtain ⟨n, hnn⟩ : ∃ n, l.length = n := ⟨_, rfl⟩
  have HN := Lib.hid hnn
  rw [hnn] at hn hsz HALL ⊢
  clear h hnn h64
  by_cases hE : szE l r = 0
  · obtain ⟨R, rfl, hR, ha, hrs, hN⟩ := szE_zero hE
    rw [hE, hN] at hsz
    by_cases hbig : 20000 < sumS R l
    · have HF := Lib.hid (HNIL.out 7 · · (by unfold sprE; rw [if_pos hE, Int.toNat_natCast, if_pos hbig]) (by decide))
      generalize sumS R l = S at *
      have q1 : decide (20000 < (S : Int)) = true := decide_eq_true (by omega)
      have q1n : decide (20000 < S) = true := decide_eq_true hbig
      have HS := Lib.hid hsz
      clear hE ha hrs hN hbig hsz
      go_enter Tryz.func25, Tryz.ntmps25
      go_wp2_with fail
      refine HS.out.mono ?_
      rintro e w1 ⟨rfl, hb1⟩
      have HFF := Lib.hid (HF.out w1 hb1)
      clear hb1
      go_wp2
      go_ret2
      exact HFF.out
    · obtain ⟨k1, k2, k3⟩ := cel_ok ha hrs
      have hsE : sprE l R = 0 := by unfold sprE; rw [if_pos hE, Int.toNat_natCast, if_neg hbig]
      have hsL : sprL l R = setF (l.flatMap (dsV R)) := by unfold sprL; rw [if_pos hsE, Int.toNat_natCast]
      rw [hsE, hsL]
      obtain ⟨N0, hN0⟩ : ∃ N0, l.map celW = N0 := ⟨_, rfl⟩
      rw [hN0] at k1 k2 k3
      have HN0 := Lib.hid hN0
      have HSL := Lib.hid (totC_len R N0)
      rw [← k2] at hsz hbig
      generalize l.flatMap (dsV R) = T at *
      have HFIN : Hid (∀ (O : List Int), (∀ x, x ∈ O ↔ x ∈ T) → setF O = setF T) := fun O hO => (setF_up O).ext (setF_up T) fun x => by rw [setF_mem, setF_mem, hO]
      have HK := Lib.hid (And.intro k1 k3)
      have HAW := Lib.hid ha
      have HML : Hid (N0.length = n) := by show _ = _; rw [← hN0, List.length_map, HN.out]
      have HOF : Hid (∀ (k : Nat) (z : E2), okB k z = true → ∀ w, Calls Tryz.prog 51 #[vC k z] w fun e w' => e = .returned (.tuple #[.int .u64 (wordN k z : Nat), .int .i64 0]) ∧ Below w.heap.size w w') := fun k z hz w => by
        have h := of_any (k : Int) z w
        rw [(ofW_ok hz).1, (ofW_ok hz).2.1] at h
        exact h
      have HCK : Hid (∀ (k : Nat) (z : E2), okB k z = true → k < 12 → ∀ w, Calls Tryz.prog 52 #[vC k z] w (ToldC w (kidsL k z) 0)) := fun k z hz hk w => by
        have h := ckids_any (k : Int) z w
        rw [(kd_ok hz (by omega)).1, (kd_ok hz (by omega)).2] at h
        exact h
      obtain ⟨S, hS⟩ : ∃ S, totC R N0 = S := ⟨_, rfl⟩
      have HTS := Lib.hid hS
      rw [hS] at hsz hbig HSL
      have hS2 : S ≤ 20000 := by omega
      have q1 : decide (20000 < (S : Int)) = false := decide_eq_false (by omega)
      have q1n : decide (20000 < S) = false := decide_eq_false hbig
      have HSZ := Lib.hid hsz
      have hnS : n ≤ S := by have := HSL.out; rw [HML.out] at this; exact this
      clear hE ha hrs hN hbig hsz k1 k2 k3 hsE hsL hS hN0
      go_enter Tryz.func25, Tryz.ntmps25
      go_wp2_with fail
      refine HSZ.out.mono ?_
      rintro e w1 ⟨rfl, hb1⟩
      have HB1 := Lib.hid hb1
      clear hb1
      go_wp2_with fail
      refine (HALL.out _ HB1.out).mono ?_
      rintro e w2 ⟨hb2, h2⟩
      rcases h2 with ⟨-, oo, oc, rfl, ho⟩ | ⟨h2, -⟩
      · rw [HN.out, HN0.out] at ho
        rw [HN.out]
        have HB2 := Lib.hid (HB1.out.trans (hb2.mono HB1.out.size))
        have HO := Lib.hid (own_base ho HB1.out.size)
        clear hb2 ho HALL
        go_wp2
        go_loopg [8, 10] (cstC R N0) (fun q nv ov wr => ∃ (N : List Cl) (O : List Int) (nn on : Nat) (no oo : Option Addr) (nc oc : Nat), nv = .slice no nn nc ∧ ov = .slice oo on oc ∧ nn + on ≤ 20000 ∧ cstC R N ≤ q ∧ Hid (N.length = nn ∧ O.length = on ∧ (∀ c ∈ N, OkC R c) ∧ on + totC R N = S ∧ ∀ x, (x ∈ O ∨ ∃ c ∈ N, x ∈ dsC R c) ↔ x ∈ T) ∧ Hid (wr.ownsRow w.heap.size 32 3 (.slice no nn nc) nn (cV N) ∧ wr.ownsRow w.heap.size 25 1 (.slice oo on oc) on (uV O) ∧ Below w.heap.size w wr))
        case atStart => exact ⟨N0, [], n, 0, oo, none, oc, 0, rfl, rfl, by omega, Nat.le_refl _, ⟨HML.out, rfl, HK.out.1, by rw [HTS.out]; omega, fun x => by rw [← HK.out.2 x]; simp⟩, HO.out, World.ownsRow_nil _ _ _ _, HB2.out⟩
        case round =>
          obtain ⟨N, O, nn, on, no, oo, nc, oc, rfl, rfl, hsum, hq, HP, HI⟩ := hrel
          have hsz := HI.out.2.2.size
          by_cases hnn0 : nn = 0
          · subst hnn0
            obtain rfl : N = [] := List.eq_nil_of_length_eq_zero HP.out.1
            have hws := words_own HP.out.2.1.symm HI.out.2.1
            have hset := uset_any oo oc O wr wr.heap.size hws (by rw [HP.out.2.1]; omega)
            rw [HP.out.2.1] at hset
            have HSET := Lib.hid hset
            have HEQ : Hid (setF O = setF T) := HFIN.out O fun x => by rw [← HP.out.2.2.2.2 x]; simp
            rw [HEQ.out] at HSET
            have HBR := Lib.hid HI.out.2.2
            clear hws hset HI HP
            go_wp2_with fail
            refine HSET.out.mono ?_
            rintro e w3 ⟨so, sc, rfl, hz, hw3, hb3⟩
            have HF : Hid (ToldS w (setF T) 0 (.returned (.tuple #[.slice so (setF T).length sc, .int .i64 0])) w3) := ⟨so, sc, rfl, hz, hw3, HBR.out.trans (hb3.mono HBR.out.size)⟩
            clear hz hw3 hb3
            go_wp2
            go_ret2
            exact HF.out
          · obtain ⟨k, rfl⟩ : ∃ k, nn = k + 1 := ⟨nn - 1, by omega⟩
            obtain ⟨N', cc, hNe⟩ : ∃ N' cc, N = N' ++ [cc] := by
              have hne : N ≠ [] := fun e => by have := HP.out.1; rw [e] at this; simp at this
              exact ⟨N.dropLast, N.getLast hne, (List.dropLast_concat_getLast _).symm⟩
            subst hNe
            have hN'l : N'.length = k := by have := HP.out.1; simpa using this
            obtain ⟨j, z, rfl, hz, hjR⟩ := HP.out.2.2.1 cc (by simp)
            obtain ⟨gb, rfl, hgl, hcells⟩ : ∃ g, no = some ⟨g, 0, none⟩ ∧ g < wr.heap.size ∧ ∀ i u, (cV (N' ++ [((j : Int), z)]))[i]? = some u → wr.cell? ⟨g, i, none⟩ = some u := by
              obtain ⟨ao', c', e, -, hh⟩ := own_form HI.out.1
              cases e
              obtain ⟨g, e2, -, h3, h4⟩ := hh (by omega)
              exact ⟨g, e2, h3, h4⟩
            have hkc : k + 1 ≤ nc := by
              obtain ⟨ao', c', e, h1, -⟩ := own_form HI.out.1
              cases e
              exact h1
            have hg3 := cV_get (N' ++ [((j : Int), z)]) k (by rw [HP.out.1]; omega)
            have hcg : cg (N' ++ [((j : Int), z)]) k = ((j : Int), z) := by
              unfold cg
              rw [List.getD_eq_getElem?_getD, List.getElem?_append_right (by omega), hN'l, Nat.sub_self]; rfl
            rw [hcg] at hg3
            have c0 := hcells _ _ hg3.1
            have c1 := hcells _ _ hg3.2.1
            have c2 := hcells _ _ hg3.2.2
            simp only at c0 c1 c2
            have hown' := own_take HI.out.1 (Nat.le_succ k)
            rw [cV_take _ k (by rw [HP.out.1]; omega), List.take_append_of_le_length (by omega), List.take_of_length_le (by omega)] at hown'
            have htot := HP.out.2.2.2.1
            rw [totC_append] at htot
            rw [cstC_append] at hq
            have T1 : Hid (Tri (wr.alloc (.cells #[.int .i64 j, .int .i64 z.1, .int .i64 z.2] 32)) wr.heap.size j z) := heap_new _ _ _ rfl
            have hal : Below wr.heap.size wr (wr.alloc (.cells #[.int .i64 j, .int .i64 z.1, .int .i64 z.2] 32)) := (Below.refl _ _).alloc (Nat.le_refl _) _
            have HO2 : Hid ((wr.alloc (.cells #[.int .i64 j, .int .i64 z.1, .int .i64 z.2] 32)).ownsRow w.heap.size 32 3 (.slice (some ⟨gb, 0, none⟩) k nc) k (cV N') ∧ (wr.alloc (.cells #[.int .i64 j, .int .i64 z.1, .int .i64 z.2] 32)).ownsRow w.heap.size 25 1 (.slice oo on oc) on (uV O) ∧ Below w.heap.size w (wr.alloc (.cells #[.int .i64 j, .int .i64 z.1, .int .i64 z.2] 32))) := ⟨own_later hown' hal, own_later HI.out.2.1 hal, HI.out.2.2.trans (hal.mono hsz)⟩
            have HMEM : Hid (∀ x, (x ∈ O ∨ (∃ c ∈ N', x ∈ dsC R c) ∨ x ∈ dsC R ((j : Int), z)) ↔ x ∈ T) := fun x => by
              rw [← HP.out.2.2.2.2 x]
              simp only [List.mem_append, List.mem_singleton]
              constructor
              · rintro (h | ⟨c, h1, h2⟩ | h)
                · exact .inl h
                · exact .inr ⟨c, .inl h1, h2⟩
                · exact .inr ⟨_, .inr rfl, h⟩
              · rintro (h | ⟨c, h1 | rfl, h2⟩)
                · exact .inl h
                · exact .inr (.inl ⟨c, h1, h2⟩)
                · exact .inr (.inr h2)
            have HOK' : Hid (∀ c ∈ N', OkC R c) := fun c hc => HP.out.2.2.1 c (List.mem_append_left _ hc)
            have HN'L := Lib.hid hN'l
            have HOL := Lib.hid HP.out.2.1
            have hw7 : IntKind.i64.wrap ((k : Int) + 1 - 1) = (k : Int) := by rw [Int.add_sub_cancel]; exact wrap_in (by omega) (by omega)
            have hlt7 : (k : Int) < (k : Int) + 1 := by omega
            clear hg3 hcg hcells hown' hal HI HP hN'l
            have hgw : gb < wr.heap.size := hgl
            go_upto_region 11 with (fail)
            generalize hbk : wr.heap.size = bk at *
            clear hbk
            generalize wr.alloc (.cells #[.int .i64 j, .int .i64 z.1, .int .i64 z.2] 32) = w4 at *
            obtain ⟨t0, t1, t2, t3, t4, t5, t6⟩ := T1.out.cells
            have hcst : 1 ≤ cst (R - j) := by cases R - j <;> simp only [cst] <;> omega
            have htot2 : on + (totC R N' + 7 ^ (R - j)) = S := by simpa [totC] using htot
            have hq2 := Nat.le_trans (show cstC R N' + cst (R - j) ≤ _ by simp [cstC]) hq
            clear htot hq
            by_cases hjr : j = R
            · subst hjr
              have hlt := Nat.lt_of_lt_of_le (show cstC j N' < cstC j N' + cst (j - j) by omega) hq2
              have HTT : Hid (on + 1 + totC j N' = S) := by show _ = _; rw [Nat.sub_self, Nat.pow_zero] at htot2; omega
              have HMEM2 : Hid (∀ x, (x ∈ O ++ [(wordN j z : Int)] ∨ ∃ c ∈ N', x ∈ dsC j c) ↔ x ∈ T) := fun x => by
                have e : dsC j ((j : Int), z) = [(wordN j z : Int)] := by unfold dsC; rw [Int.toNat_natCast, Nat.sub_self]; rfl
                rw [← HMEM.out x, e]
                simp only [List.mem_append, List.mem_singleton]
                constructor
                · rintro ((h | h) | h)
                  · exact .inl h
                  · exact .inr (.inr h)
                  · exact .inr (.inl h)
                · rintro (h | h | h)
                  · exact .inl (.inl h)
                  · exact .inr h
                  · exact .inl (.inr h)
              have HO3 := Lib.hid (HOF.out j z hz)
              have hsum2 : k + (on + 1) ≤ 20000 := by omega
              have q5 : ((j : Int) == (j : Int)) = true := by simp
              generalize wordN j z = W at *
              clear hq2 htot2 HMEM hz hcst
              simp only [vC] at HO3
              go_wp2_with fail
              refine (HO3.out _).mono ?_
              rintro e w5 ⟨rfl, hb5⟩
              have hal : Below w5.heap.size w5 (w5.alloc (.cells #[.int .u64 W] 25)) := (Below.refl _ _).alloc (Nat.le_refl _) _
              have HON5 := Lib.hid (own_later HO2.out.1 (hb5.trans (hal.mono hb5.size)))
              have hown := own_later HO2.out.2.1 hb5
              have HB5 := Lib.hid ((HO2.out.2.2.trans (hb5.mono HO2.out.2.2.size)).alloc (HO2.out.2.2.trans (hb5.mono HO2.out.2.2.size)).size (.cells #[.int .u64 (W : Int)] 25))
              have hbs : w.heap.size ≤ (w5.alloc (.cells #[.int .u64 (W : Int)] 25)).heap.size := HB5.out.size
              clear hb5 hal t0 t1 t2 t3 t4 t5 t6 T1 HO2 HO3
              go_wp2_with (at_builtin; refine wpList_append_own_at _ rfl (.tmp 57) (.tmp 59) 22 rfl w.heap.size 25 i0 (.int .u64 0) 1 8 Tryz.underlying22 hi hz0 hz1 hz2 rfl (by decide) _ on (uV O) rfl (hown.alloc _) ⟨w5.heap.size, 0, none⟩ 1 1 [.int .u64 W] rfl rfl (cells_new _ _ _ _ rfl) (by simp [Value.oneCell']) (by unfold maxLen; omega) (by omega) hbs ?_; intro v8 w8 hown8 hg8 _ hat8)
              obtain ⟨oo8, oc8, rfl, -⟩ := own_form hown8
              have HN8 := Lib.hid (HON5.out.kept hg8 (own_apart2 HON5.out (hown.alloc (.cells #[.int .u64 (W : Int)] 25)) (by decide)))
              have HO8 : Hid (w8.ownsRow w.heap.size 25 1 (.slice oo8 (on + 1) oc8) (on + 1) (uV (O ++ [(W : Int)]))) := by rw [uV_snoc]; exact hown8
              have HB8 := Lib.hid (below_append HB5.out (hown.alloc (.cells #[.int .u64 (W : Int)] 25)) hbs hg8)
              have HL8 : Hid ((O ++ [(W : Int)]).length = on + 1) := by show _ = _; rw [List.length_append, HOL.out]; rfl
              clear hown hown8 hg8 hat8 hbs HON5 HB5
              go_roundg (cstC j N')
              case measure => exact hlt
              case rel => exact ⟨N', O ++ [(W : Int)], k, on + 1, _, oo8, nc, oc8, rfl, rfl, hsum2, Nat.le_refl _, ⟨HN'L.out, HL8.out, HOK'.out, HTT.out, HMEM2.out⟩, HN8.out, HO8.out, HB8.out⟩
            · have hjl : j < R := by omega
              obtain ⟨g1, g2⟩ := kids_tot hjl z
              have hlt := Nat.lt_of_lt_of_le (show cstC R (N' ++ kidsL j z) < cstC R N' + cst (R - j) by rw [cstC_append]; omega) hq2
              have HTT : Hid (on + totC R (N' ++ kidsL j z) = S) := by show _ = _; rw [totC_append, g1]; exact htot2
              have HMEM2 : Hid (∀ x, (x ∈ O ∨ ∃ c ∈ N' ++ kidsL j z, x ∈ dsC R c) ↔ x ∈ T) := fun x => by
                rw [← HMEM.out x, ← kids_mem hjl z x]
                simp only [List.mem_append]
                constructor
                · rintro (h | ⟨c, h1 | h1, h2⟩)
                  · exact .inl h
                  · exact .inr (.inl ⟨c, h1, h2⟩)
                  · exact .inr (.inr ⟨c, h1, h2⟩)
                · rintro (h | ⟨c, h1, h2⟩ | ⟨c, h1, h2⟩)
                  · exact .inl h
                  · exact .inr ⟨c, .inl h1, h2⟩
                  · exact .inr ⟨c, .inr h1, h2⟩
              have HOK2 : Hid (∀ c ∈ N' ++ kidsL j z, OkC R c) := fun c hc => (List.mem_append.1 hc).elim (HOK'.out c) (kids_okC hjl hR hz c)
              have HKL : Hid ((kidsL j z).length = 7) := by show _ = _; unfold kidsL; simp
              have hlen := totC_len R (N' ++ kidsL j z)
              have HL2 : Hid ((N' ++ kidsL j z).length = k + 7) := by show _ = _; rw [List.length_append, HN'L.out, HKL.out]
              have hsum2 : k + 7 + on ≤ 20000 := by have := HTT.out; rw [HL2.out] at hlen; omega
              have HC3 := Lib.hid (HCK.out j z hz (by omega))
              have q5 : ((j : Int) == (R : Int)) = false := by rw [beq_eq_false_iff_ne]; omega
              generalize kidsL j z = K at *
              clear hq2 htot2 HMEM hz hcst g1 g2 hlen hjr
              simp only [vC] at HC3
              go_wp2_with fail
              refine (HC3.out _).mono ?_
              rintro e w5 ⟨qo, qc, rfl, hqa, hb5⟩
              rw [HKL.out]
              obtain ⟨qb, qf, rfl, -, -⟩ := hqa (by rw [HKL.out]; omega)
              have hnews := cell_news hqa rfl
              have HNW := Lib.hid hnews
              have hown := own_later HO2.out.1 hb5
              have HOU5 := Lib.hid (own_later HO2.out.2.1 hb5)
              have HB5 := Lib.hid (HO2.out.2.2.trans (hb5.mono HO2.out.2.2.size))
              have hbs : w.heap.size ≤ w5.heap.size := HB5.out.size
              have HKV : Hid ((cV K).length = 7 * 3) := by show _ = _; rw [cV_length, HKL.out]
              clear hb5 hqa hnews t0 t1 t2 t3 t4 t5 t6 T1 HO2 HC3
              go_wp2_with (at_builtin; refine wpList_append_own_at _ rfl (.tmp 66) (.tmp 67) 35 rfl w.heap.size 32 i1 (.agg #[.int .i64 0, .int .i64 0, .int .i64 0]) 3 24 Tryz.underlying35 hj hy0 hy1 hy2 rfl (by decide) _ k (cV N') rfl hown ⟨qb, qf, none⟩ 7 qc (cV K) rfl HKV.out HNW.out (cV_cell K) (by unfold maxLen; omega) (by omega) hbs ?_; intro v8 w8 hown8 hg8 _ hat8)
              obtain ⟨no8, nc8, rfl, -⟩ := own_form hown8
              have HO8 := Lib.hid (HOU5.out.kept hg8 (own_apart2 HOU5.out hown (by decide)))
              have HN8 : Hid (w8.ownsRow w.heap.size 32 3 (.slice no8 (k + 7) nc8) (k + 7) (cV (N' ++ K))) := by rw [cV_append]; exact hown8
              have HB8 := Lib.hid (below_append HB5.out hown hbs hg8)
              clear hown hown8 hg8 hat8 hbs HOU5 HB5
              go_roundg (cstC R (N' ++ K))
              case measure => exact hlt
              case rel => exact ⟨N' ++ K, O, k + 7, on, no8, oo, nc8, oc, rfl, rfl, hsum2, Nat.le_refl _, ⟨HL2.out, HOL.out, HOK2.out, HTT.out, HMEM2.out⟩, HN8.out, HO8.out, HB8.out⟩
      · rw [HAW.out] at h2; cases h2
  · have HF := Lib.hid (HNIL.out (szE l r) · · (by unfold sprE; rw [if_neg hE]) hE)
    generalize szE l r = E at *
    generalize szN l r = S at *
    have q1 : (E != 0) = true := by simp [hE]
    have HS := Lib.hid hsz
    clear hE hsz
    go_enter Tryz.func25, Tryz.ntmps25
    go_wp2_with fail
    refine HS.out.mono ?_
    rintro e w1 ⟨rfl, hb1⟩
    have HFF := Lib.hid (HF.out w1 hb1)
    clear hb1
    go_wp2
    go_ret2
    exact HFF.out
end Go.Proofs.YtkjfdaleamonaaaGreat
/- The contract of pack.Covers. -/
namespace Go.Proofs.YtkjfdaleamonaaaGreat
open Go.RowKit Go.Lib Wd

/-- Whether a word is within another one; within one of some. -/
def wiB (w x : Nat) : Bool := isW x && winB (cvR w) (cvZ w) (cvR x) (cvZ x)
def covB (l : List Int) (w : Nat) : Bool := isW w && l.any fun v => wiB w v.toNat
set_option maxRecDepth 100000 in
set_option maxHeartbeats 4000000 in
theorem covers_any (ao : Option Addr) (c : Nat) (l : List Int) (w0 : Nat) (hw0 : w0 < 18446744073709551616) (w : World) (B : Nat) (h : WordsAt w B ao l) (hB : B ≤ w.heap.size) (hn : l.length ≤ 1000000) (h64 : In64 l) :
    Calls Tryz.prog 32 #[.slice ao l.length c, .int .u64 w0] w fun e w' => e = .returned (.bool (covB l w0)) ∧ Below w.heap.size w w' := by
  obtain ⟨n, hnn⟩ : ∃ n, l.length = n := ⟨_, rfl⟩
  have HN := Lib.hid hnn
  have HW := Lib.hid h
  have H64 : Hid (∀ k, k < n → 0 ≤ l.getD k 0 ∧ l.getD k 0 < 18446744073709551616) := fun k hk => h64 _ (getD_mem (by rw [hnn]; exact hk))
  have hcell := cell_any w0 hw0
  rw [hnn] at hn ⊢
  by_cases hW : isW w0 = true
  · have hE : cvE w0 = 0 := by unfold cvE; rw [if_pos hW]
    have HCB : Hid (covB l w0 = l.any fun v => wiB w0 v.toNat) := by show _ = _; unfold covB; rw [hW]; simp
    rw [hE] at hcell
    have HC := Lib.hid hcell
    have HT : Hid (∀ k, k < n → wiB w0 (l.getD k 0).toNat = true → covB l w0 = true) := fun k hk ht => by rw [HCB.out]; exact List.any_eq_true.2 ⟨_, getD_mem (by rw [hnn]; exact hk), ht⟩
    have HF : Hid ((∀ k, k < n → wiB w0 (l.getD k 0).toNat = false) → covB l w0 = false) := fun hall => by
      rw [HCB.out, List.any_eq_false]
      intro v hv
      obtain ⟨k, hk, rfl⟩ := List.getElem_of_mem hv
      have := hall k (by omega)
      rw [List.getD_eq_getElem?_getD, List.getElem?_eq_getElem hk, Option.getD_some] at this
      rw [this]; simp
    have HWI : Hid (∀ x : Nat, ∀ w, Calls Tryz.prog 67 #[vC (cvR w0) (cvZ w0), vC (cvR x) (cvZ x)] w fun e w' => e = .returned (.bool (winB (cvR w0) (cvZ w0) (cvR x) (cvZ x))) ∧ Below w.heap.size w w') := fun x w => cwithin_any _ _ _ _ w
    have HWB : Hid (∀ x : Nat, wiB w0 x = (isW x && winB (cvR w0) (cvZ w0) (cvR x) (cvZ x))) := fun x => rfl
    generalize covB l w0 = CB at *
    generalize cvR w0 = r at *
    generalize cvZ w0 = z at *
    clear hcell hE hW hnn h h64 HCB
    simp only [vC] at *
    go_enter Tryz.func32, Tryz.ntmps32
    go_wp2_with fail
    refine (HC.out _).mono ?_
    rintro e w1 ⟨rfl, hb1⟩
    have T1 : Hid (Tri (w1.alloc (.cells #[.int .i64 r, .int .i64 z.1, .int .i64 z.2] 32)) w1.heap.size r z) := heap_new _ _ _ rfl
    have B1 : Hid (Below w.heap.size w (w1.alloc (.cells #[.int .i64 r, .int .i64 z.1, .int .i64 z.2] 32))) := hb1.alloc hb1.size _
    clear hb1
    go_upto_region 2 with (fail)
    generalize hbk : w1.heap.size = bk at *
    clear hbk
    generalize w1.alloc (.cells #[.int .i64 r, .int .i64 z.1, .int .i64 z.2] 32) = w2 at *
    go_wp2
    go_loopw [20] (fun i wr => ∃ k : Nat, k ≤ n ∧ i = .int .i64 k ∧ Hid (∀ j, j < k → wiB w0 (l.getD j 0).toNat = false) ∧ Hid (Below w2.heap.size w2 wr ∧ True)) (fun i _ => n - (intOf i).toNat)
    case atStart => exact ⟨0, by omega, rfl, fun j hj => by omega, Below.refl _ _, trivial⟩
    case round =>
      obtain ⟨k, hk, rfl, HA, hbr, -⟩ := hrel
      have HBR := Lib.hid hbr
      have HBW := Lib.hid (B1.out.trans (hbr.mono B1.out.size))
      clear hbr
      by_cases hlt : k < n
      · obtain ⟨g, off, rfl, hg, hc⟩ := (HW.out.below HBW.out hB) (by rw [HN.out]; omega)
        have c0 := hc k (by rw [HN.out]; exact hlt)
        obtain ⟨v1, v2⟩ := H64.out k hlt
        have ht := HT.out k hlt
        have hA2 : wiB w0 (l.getD k 0).toNat = false → ∀ j, j < k + 1 → wiB w0 (l.getD j 0).toNat = false := fun hk2 j hj => by
          by_cases e : j = k
          · rw [e]; exact hk2
          · exact HA.out j (by omega)
        generalize l.getD k 0 = v at *
        obtain ⟨u, rfl⟩ : ∃ u : Nat, v = u := ⟨v.toNat, by omega⟩
        rw [Int.toNat_natCast] at ht hA2
        have hcu := cell_any u (by omega)
        have hwb := HWB.out u
        have hwi := HWI.out u
        have hcE : (cvE u = 0 ∧ isW u = true) ∨ (cvE u = 5 ∧ isW u = false) := by
          unfold cvE
          by_cases h : isW u = true
          · exact .inl ⟨by rw [if_pos h], h⟩
          · exact .inr ⟨by rw [if_neg h], by simpa using h⟩
        have hgw : g < wr.heap.size := by have := HBW.out.size; omega
        generalize cvR u = s at *
        generalize cvZ u = y at *
        simp only [vC] at *
        clear hc
        rcases hcE with ⟨e1, e2⟩ | ⟨e1, e2⟩
        · rw [e1] at hcu
          rw [e2, Bool.true_and] at hwb
          rw [hwb] at ht hA2
          have HCU := Lib.hid hcu
          obtain ⟨o, ho⟩ : ∃ o, winB r z s y = o := ⟨_, rfl⟩
          rw [ho] at hwi ht hA2
          have HWI2 := Lib.hid hwi
          have HTT := Lib.hid ht
          have HAA := Lib.hid hA2
          clear hcu hwi ht hA2 ho hwb e1 e2
          go_wp2_with fail
          refine (HCU.out _).mono ?_
          rintro e w3 ⟨rfl, hb3⟩
          have hal : Below w3.heap.size w3 (w3.alloc (.cells #[.int .i64 s, .int .i64 y.1, .int .i64 y.2] 32)) := (Below.refl _ _).alloc (Nat.le_refl _) _
          have hb4 := hb3.trans (hal.mono hb3.size)
          have Y1 : Hid (Tri (w3.alloc (.cells #[.int .i64 s, .int .i64 y.1, .int .i64 y.2] 32)) w3.heap.size s y) := heap_new _ _ _ rfl
          have T4 := Lib.hid ((T1.out.later HBR.out).later hb4)
          have B4 := Lib.hid (HBR.out.trans (hb4.mono HBR.out.size))
          clear hb3 hal hb4 c0
          go_upto_region 8 with (fail)
          generalize hyk : w3.heap.size = yk at *
          clear hyk
          generalize w3.alloc (.cells #[.int .i64 s, .int .i64 y.1, .int .i64 y.2] 32) = w4 at *
          obtain ⟨t0, t1, t2, t3, t4, t5, t6⟩ := T4.out.cells
          obtain ⟨y0, y1, y2, y3, y4, y5, y6⟩ := Y1.out.cells
          go_wp2_with fail
          refine (HWI2.out _).mono ?_
          rintro e w5 ⟨rfl, hb5⟩
          have B5 := Lib.hid (B4.out.trans (hb5.mono B4.out.size))
          clear hb5 t0 t1 t2 t3 t4 t5 t6 y0 y1 y2 y3 y4 y5 y6
          cases o with
          | true =>
            have HR := Lib.hid (HTT.out rfl)
            have BF := Lib.hid (B1.out.trans (B5.out.mono B1.out.size))
            clear HTT HAA
            go_wp2
            go_ret
            exact ⟨by rw [HR.out]; rfl, BF.out⟩
          | false =>
            have HA3 := Lib.hid (HAA.out rfl)
            clear HTT HAA
            go_wp2
            go_roundw
            case rel => exact ⟨k + 1, by omega, by go_num, HA3.out, B5.out, trivial⟩
            case measure => simp [intOf]; omega
        · rw [e1] at hcu
          rw [e2, Bool.false_and] at hwb
          have HCU := Lib.hid hcu
          have HA3 := Lib.hid (hA2 hwb)
          clear hcu hwi ht hA2 hwb e1 e2
          go_wp2_with fail
          refine (HCU.out _).mono ?_
          rintro e w3 ⟨rfl, hb3⟩
          have hal : Below w3.heap.size w3 (w3.alloc (.cells #[.int .i64 s, .int .i64 y.1, .int .i64 y.2] 32)) := (Below.refl _ _).alloc (Nat.le_refl _) _
          have hb4 := hb3.trans (hal.mono hb3.size)
          have B4 := Lib.hid (HBR.out.trans (hb4.mono HBR.out.size))
          clear hb3 hal hb4 c0
          go_wp2
          go_roundw
          case rel => exact ⟨k + 1, by omega, by go_num, HA3.out, B4.out, trivial⟩
          case measure => simp [intOf]; omega
      · have HR := Lib.hid (HF.out fun j hj => HA.out j (by omega))
        go_wp2
        go_ret
        exact ⟨by rw [HR.out]; rfl, HBW.out⟩
  · have hE : cvE w0 = 5 := by unfold cvE; rw [if_neg hW]
    have hCB : covB l w0 = false := by unfold covB; rw [Bool.eq_false_iff.2 hW]; simp
    rw [hE] at hcell
    rw [hCB]
    have HC := Lib.hid hcell
    generalize cvR w0 = r at *
    generalize cvZ w0 = z at *
    clear hcell hE hCB hW hnn h h64
    simp only [vC] at *
    go_enter Tryz.func32, Tryz.ntmps32
    go_wp2_with fail
    refine (HC.out _).mono ?_
    rintro e w1 ⟨rfl, hb1⟩
    have B1 : Hid (Below w.heap.size w (w1.alloc (.cells #[.int .i64 r, .int .i64 z.1, .int .i64 z.2] 32))) := hb1.alloc hb1.size _
    clear hb1
    go_wp2
    go_ret
    exact ⟨rfl, B1.out⟩
end Go.Proofs.YtkjfdaleamonaaaGreat
/- The contract of apiarylaw8.awake. -/
namespace Go.Proofs.YtkjfdaleamonaaaGreat
open Go.RowKit Go.Lib Wd

theorem ok_300 : okB (3 : Nat) (0, 0) = true := by decide
theorem uV_one (l : List Int) (x : Int) : uV l ++ [.int .u64 x] = uV (l ++ [x]) := (uV_snoc l x).symm
set_option maxRecDepth 100000 in
set_option maxHeartbeats 16000000 in
theorem awake8_any (w : World) : Calls Tryz.prog 28 #[] w fun e w' => e = .returned (.bool true) ∧ Below w.heap.size w w' := by
  obtain ⟨i0, hi, hz0, hz1, hz2⟩ := info_parts info_u
  have hk := rkids_any (3 : Nat) (0, 0)
  rw [(kd_ok ok_300 (by decide)).1, (kd_ok ok_300 (by decide)).2] at hk
  obtain ⟨W, hW⟩ : ∃ W, wordN 3 (0, 0) = W := ⟨_, rfl⟩
  obtain ⟨K, hK⟩ : ∃ K, kidsW 3 (wordN 3 (0, 0)) = K := ⟨_, rfl⟩
  have hKd : dsN 1 3 (0, 0) = K := by rw [← hK, kids_ds (by decide)]
  have hKs : Sized 4 K := by rw [← hKd]; exact ds_sized (d := 1) (by decide) ok_300
  have hKu : Up K := by rw [← hK]; exact kids_up (by decide) _
  have hKl : K.length = 7 := by rw [← hK]; exact kidsW_len _ _
  obtain ⟨g1, g2, -⟩ := sized_cmp hKs (by omega)
  have g3 : packF 4 K = [(W : Int)] := by rw [← hKd, ← hW]; exact packF_ds (d := 1) (by decide) ok_300
  have hKne : K ≠ [] := fun e => by rw [e] at hKl; cases hKl
  rw [g3] at g2
  obtain ⟨s1, s2⟩ := one_spread ok_300 (R := 4) (by decide) (by decide) (by decide)
  rw [hW] at s1 s2
  rw [show (4 - 3 : Nat) = 1 from rfl, hKd] at s2
  have hF1 : freeB K = true := free_sized hKs hKu.nodup
  have hF2 : freeB ([(W : Int)] ++ K) = false := by
    obtain ⟨v, hv⟩ := List.exists_mem_of_ne_nil K hKne
    exact free_kid (k := 3) (by decide) ok_300 (by rw [hW]; simp) (v := v) (by simp [hv]) (by rw [hK]; exact hv)
  have HWD : Hid (∀ k, k < 7 → ∀ w, Calls Tryz.prog 18 #[vC (cg (kidsL 3 (0, 0)) k).1 (cg (kidsL 3 (0, 0)) k).2] w fun e w' => e = .returned (.tuple #[.int .u64 (K.getD k 0), .int .i64 0]) ∧ Below w.heap.size w w') := fun k hk w => by
    rw [kidsL_get _ _ hk]
    have h := word_any ((4 : Nat) : Int) (downE (0, 0) k) w
    have ho := kid_ok ok_300 (by decide) hk
    rw [(ofW_ok (r := 4) ho).1, (ofW_ok (r := 4) ho).2.1] at h
    rw [← hK, kidsW_get (by decide) hk]
    exact h
  have HTK : Hid (∀ k, k < 7 → K.take (k + 1) = K.take k ++ [K.getD k 0]) := fun k hk => take_w K (by omega)
  have HTE : Hid (K.take 7 = K) := List.take_of_length_le (by omega)
  have HC : Hid (∀ lo lc wx, WordsAt wx wx.heap.size lo K → Calls Tryz.prog 26 #[.slice lo 7 lc] wx (ToldP wx [(W : Int)] 0)) := fun lo lc wx h => by
    have := compact_any lo lc K wx wx.heap.size h (Nat.le_refl _) (by omega) (sized_64 hKs)
    rwa [hKl, g1, g2 hKne] at this
  have hWs : Sized 3 [(W : Int)] := fun v hv => ⟨(0, 0), ok_300, by rw [hW]; exact List.mem_singleton.1 hv⟩
  have HS : Hid (∀ lo lc wx, WordsAt wx wx.heap.size lo [(W : Int)] → Calls Tryz.prog 25 #[.slice lo 1 lc, .int .i64 4] wx (ToldS wx K 0)) := fun lo lc wx h => by
    have := spread_any lo lc [(W : Int)] (4 : Nat) wx wx.heap.size h (Nat.le_refl _) (by simp) (sized_64 hWs)
    rw [s1, s2] at this
    exact this
  have HF1 : Hid (∀ lo lc wx, WordsAt wx wx.heap.size lo K → Calls Tryz.prog 27 #[.slice lo 7 lc] wx fun e w' => e = .returned (.bool true) ∧ Below wx.heap.size wx w') := fun lo lc wx h => by
    have := free_any lo lc K wx wx.heap.size h (Nat.le_refl _) (by omega) (sized_64 hKs)
    rwa [hKl, hF1] at this
  have HF2 : Hid (∀ lo lc wx, WordsAt wx wx.heap.size lo ([(W : Int)] ++ K) → Calls Tryz.prog 27 #[.slice lo 8 lc] wx fun e w' => e = .returned (.bool false) ∧ Below wx.heap.size wx w') := fun lo lc wx h => by
    have := free_any lo lc ([(W : Int)] ++ K) wx wx.heap.size h (Nat.le_refl _) (by simp; omega) (fun v hv => (List.mem_append.1 hv).elim (sized_64 hWs v) (sized_64 hKs v))
    rwa [show ([(W : Int)] ++ K).length = 8 by simp [hKl], hF2] at this
  have HKL := Lib.hid hKl
  have HCL : Hid ((kidsL 3 (0, 0)).length = 7) := rfl
  have HK := Lib.hid hk
  simp only [vC] at HWD HK
  generalize hcl : kidsL (((3 : Nat)) : Int) (0, 0) = C at *
  have HCQ := Lib.hid hcl
  clear hk hW hK hKd hKs hKu hKl g1 g2 g3 hKne s1 s2 hF1 hF2 hWs hcl
  go_enter Tryz.func28, Tryz.ntmps28
  go_wp2_with fail
  refine (HK.out _).mono ?_
  rintro e w1 ⟨co, cc, rfl, hca, hb1⟩
  rw [HCL.out]
  have HCA := Lib.hid hca
  have HB1 := Lib.hid hb1
  clear hca hb1 HK
  go_wp2
  go_loopw [3, 4] (fun sl i wr => ∃ (k : Nat) (lo : Option Addr) (lc : Nat), k ≤ 7 ∧ i = .int .i64 k ∧ sl = .slice lo k lc ∧ Hid (wr.ownsRow w1.heap.size 25 1 (.slice lo k lc) k (uV (K.take k)) ∧ Below w1.heap.size w1 wr)) (fun _ i _ => 7 - (intOf i).toNat)
  case atStart => exact ⟨0, none, 0, by omega, rfl, rfl, World.ownsRow_nil _ _ _ _, Below.refl _ _⟩
  case round =>
    obtain ⟨k, lo, lc, hk, rfl, rfl, HI⟩ := hrel
    by_cases hlt : k < 7
    · obtain ⟨g, off, rfl, hg, hc⟩ := (HCA.out.below HI.out.2) (by rw [HCL.out]; omega)
      obtain ⟨c0, c1, c2⟩ := hc k (by rw [HCL.out]; exact hlt)
      have hwd := HWD.out k hlt
      have htk := HTK.out k hlt
      generalize cg C k = y at *
      generalize K.getD k 0 = x at *
      have HWK := Lib.hid hwd
      have HTK2 := Lib.hid htk
      clear hc hwd htk
      go_wp2_with fail
      refine (HWK.out _).mono ?_
      rintro e w2 ⟨rfl, hb2⟩
      have hs1 := HI.out.2.size
      have HB2 := Lib.hid (HI.out.2.trans (hb2.mono hs1))
      have hown := own_later HI.out.1 hb2
      have HBA := Lib.hid (HB2.out.alloc HB2.out.size (.cells #[.int .u64 x] 25))
      have hbs : w1.heap.size ≤ (w2.alloc (.cells #[.int .u64 x] 25)).heap.size := HBA.out.size
      clear hb2 HI c0 c1 c2 HWK
      go_wp2_with (at_builtin; refine wpList_append_own_at _ rfl (.tmp 30) (.tmp 32) 22 rfl w1.heap.size 25 i0 (.int .u64 0) 1 8 Tryz.underlying22 hi hz0 hz1 hz2 rfl (by decide) _ k (uV (K.take k)) rfl (hown.alloc _) ⟨w2.heap.size, 0, none⟩ 1 1 [.int .u64 x] rfl rfl (cells_new _ _ _ _ rfl) (by simp [Value.oneCell']) (by unfold maxLen; omega) (by omega) hbs ?_; intro v3 w3 hown1 hgrow _ _)
      obtain ⟨lo', lc', rfl, -⟩ := own_form hown1
      have HO3 : Hid (w3.ownsRow w1.heap.size 25 1 (.slice lo' (k + 1) lc') (k + 1) (uV (K.take (k + 1)))) := by rw [HTK2.out, uV_snoc]; exact hown1
      have HB3 := Lib.hid (below_append HBA.out (hown.alloc (.cells #[.int .u64 x] 25)) hbs hgrow)
      clear hown hown1 hgrow hbs HBA HB2
      go_roundw
      case rel => exact ⟨k + 1, lo', lc', by omega, by go_num, rfl, HO3.out, HB3.out⟩
      case measure => simp [intOf]; omega
    · obtain rfl : k = 7 := by omega
      have ho := HI.out.1
      rw [HTE.out] at ho
      have HO := Lib.hid ho
      have HBR := Lib.hid HI.out.2
      have HCC := Lib.hid (HC.out lo lc wr (words_own HKL.out.symm ho))
      clear ho HI HC
      go_wp2_with fail
      refine HCC.out.mono ?_
      rintro e w2 ⟨po, pc, rfl, hp2, hb2⟩
      have HP2 := Lib.hid hp2
      have HO2 := Lib.hid (own_later HO.out hb2)
      have HB2 := Lib.hid (HBR.out.trans (hb2.mono HBR.out.size))
      have HSS := Lib.hid (HS.out po pc w2 (words_own rfl hp2))
      have HPB : Hid (w1.heap.size ≤ wr.heap.size) := HBR.out.size
      clear hp2 hb2 HCC HO HBR HS
      go_wp2_with fail
      refine HSS.out.mono ?_
      rintro e w3 ⟨so, sc, rfl, -, hws, hb3⟩
      rw [HKL.out]
      have HO3 := Lib.hid (own_later HO2.out hb3)
      have HP3 := Lib.hid (own_base (own_later HP2.out hb3) HPB.out)
      have HB3 := Lib.hid (HB2.out.trans (hb3.mono HB2.out.size))
      have HFA := Lib.hid (HF1.out lo lc w3 (words_own HKL.out.symm HO3.out))
      clear hws hb3 HSS HO2 HP2 HB2
      go_wp2_with fail
      refine HFA.out.mono ?_
      rintro e w4 ⟨rfl, hb4⟩
      have HO4 := Lib.hid (own_later HO3.out hb4)
      have HP4 := Lib.hid (own_later HP3.out hb4)
      have HB4 := Lib.hid (HB3.out.trans (hb4.mono HB3.out.size))
      obtain ⟨v5, w5, hrun, hown5, hg5, -⟩ := append_words_at HP4.out (words_own HKL.out.symm HO4.out) HKL.out (own_none HO4.out) HB4.out.size (by simp)
      have HRUN := Lib.hid hrun
      obtain ⟨qo, qc, rfl, -⟩ := own_form hown5
      have HB5 := Lib.hid (below_append HB4.out HP4.out HB4.out.size hg5)
      have HFB := Lib.hid (HF2.out qo qc w5 (words_own (by simp [HKL.out]) hown5))
      clear hb4 hrun hown5 hg5 HFA HO3 HP3 HB3
      go_wp2_with (at_builtin; refine wpList_append_want _ (by kernel_rfl) (.tmp 65) (.tmp 66) 22 22 rfl _ _ rfl rfl _ _ HRUN.out ?_)
      refine HFB.out.mono ?_
      rintro e w6 ⟨rfl, hb6⟩
      have HB6 := Lib.hid (HB1.out.trans ((HB5.out.trans (hb6.mono HB5.out.size)).mono HB1.out.size))
      clear hb6
      go_wp2
      go_ret
      exact ⟨rfl, HB6.out⟩
end Go.Proofs.YtkjfdaleamonaaaGreat
/- apiarylaw5.Word as a word of some cell; lists in new blocks; a row of zeros; what pack's functions tell of short lists. -/
namespace Go.Proofs.YtkjfdaleamonaaaGreat
open Go.RowKit Go.Lib Go.Sort Wd

theorem lword_w (x y r : Int) (w : World) : Calls Tryz.prog 14 #[.int .i64 x, .int .i64 y, .int .i64 r] w fun e w' => e = .returned (.int .u64 (wordN (r % 13).toNat (someE x y (r % 13).toNat) : Nat)) ∧ Below w.heap.size w w' := by
  have h := lword_any x y r w
  obtain ⟨p, hp⟩ : ∃ p : Nat, r % 13 = p := ⟨(r % 13).toNat, by omega⟩
  rw [hp, Int.toNat_natCast] at h ⊢
  rw [(ofW_ok (some_ok x y (r := p) (by omega))).1] at h
  exact h
theorem in64_cons {x : Nat} {l : List Int} (hx : x < 18446744073709551616) (h : In64 l) : In64 ((x : Int) :: l) := fun v hv => by
  rcases List.mem_cons.1 hv with rfl | hv
  · exact ⟨by omega, by omega⟩
  · exact h v hv
theorem in64_nil : In64 [] := fun v hv => by cases hv
theorem in64_rep (n : Nat) {x : Nat} (hx : x < 18446744073709551616) : In64 (List.replicate n (x : Int)) := fun v hv => by
  obtain rfl := List.eq_of_mem_replicate hv
  exact ⟨by omega, by omega⟩
theorem uV_rep (n : Nat) (x : Int) : uV (List.replicate n x) = List.replicate n (.int .u64 x) := by unfold uV; rw [List.map_replicate]
theorem made_zeros (n : Nat) : (madeCells #[.int .u64 0] (n * 1)).toList = List.replicate n (.int .u64 0) := by
  refine List.ext_getElem? fun i => ?_
  unfold madeCells
  by_cases h : i < n
  · simp [h, Nat.mod_one]
  · simp [h]
theorem isW0 : isW 0 = false := by decide
end Go.Proofs.YtkjfdaleamonaaaGreat
