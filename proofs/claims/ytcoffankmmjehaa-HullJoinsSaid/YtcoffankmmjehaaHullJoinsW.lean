/- The walk of the law HullJoins. -/
import Derived.Test.YtcoffankmmjehaaHullK
namespace Go.Proofs.Ytcoffankmmjehaa.hullJoins
open Go.RowKit Go.Lib Hull

theorem area_in {w : World} {l : List Pt} (hs : Small 1000000 l) (hl : l.length ≤ 1000) {ao : Option Addr} {c : Nat} (h : PAt w ao l) : ∀ wy, Below w.heap.size w wy → Calls Try.prog 14 #[.slice ao l.length c] wy fun e w' => e = .returned (.int .i64 (area l)) ∧ Below wy.heap.size wy w' := fun wy hy => by
  have := area_any ao c l wy (h.below hy) (by omega)
  rwa [if_pos (hs.ok (by omega) hl), area_small hs hl] at this
theorem pAt_take {w : World} {ao : Option Addr} {l : List Pt} {k : Nat} (h : PAt w ao l) (hk : k ≤ l.length) : PAt w ao (l.take k) := fun h0 => by
  have e : (l.take k).length = k := by rw [List.length_take]; omega
  rw [e] at h0
  obtain ⟨b, off, rfl, hb, hc⟩ := h (by omega)
  refine ⟨b, off, rfl, hb, fun i hi => ?_⟩
  rw [e] at hi
  rw [show pg (l.take k) i = pg l i from pg_take hi]
  exact hc i (by omega)
theorem pg_drop (l : List Pt) (k i : Nat) : pg (l.drop k) i = pg l (k + i) := by unfold pg; rw [List.getD_eq_getElem?_getD, List.getElem?_drop, List.getD_eq_getElem?_getD]
theorem pAt_drop {w : World} {g c : Nat} {l : List Pt} {k : Nat} (h : PAt w (some ⟨g, 0, none⟩) l) (hk : k ≤ l.length) (hc : l.length ≤ c) : PAt w (if c = k then some ⟨g, 0, none⟩ else some ⟨g, k * 2, none⟩) (l.drop k) := fun h0 => by
  rw [List.length_drop] at h0
  obtain ⟨b, off, e, hb, hcl⟩ := h (by omega)
  cases e
  rw [if_neg (by omega)]
  refine ⟨g, k * 2, rfl, hb, fun i hi => ?_⟩
  rw [List.length_drop] at hi
  have := hcl (k + i) (by omega)
  rw [Nat.zero_add, Nat.add_mul] at this
  rw [pg_drop]
  exact this
theorem law_joins {l : List Pt} (k : Nat) (hok : okB l = true) (hl : l.length ≤ 12) (ha : hullF (l.take k) ≠ []) (hb : hullF (l.drop k) ≠ []) : hullF l = hullF (hullF (l.take k) ++ hullF (l.drop k)) ∧ area (hullF (l.take k)) ≤ area (hullF l) ∧ area (hullF (l.drop k)) ≤ area (hullF l) := by
  have h1 : ∀ p ∈ l.take k, p ∈ l := fun p hp => List.mem_of_mem_take hp
  have h2 : ∀ p ∈ l.drop k, p ∈ l := fun p hp => List.mem_of_mem_drop hp
  refine ⟨hull_join (a := l.take k) (b := l.drop k) (fun p => ?_) hok ha hb (fun p => List.mem_append) ?_, hull_area ha h1 hok, hull_area hb h2 hok⟩
  · rw [← List.mem_append, List.take_append_drop]
  · refine okB_sub hok ?_ fun p hp => ?_
    · rw [List.length_append]
      have := hullF_len (l.take k)
      have := hullF_len (l.drop k)
      rw [List.length_take] at *
      rw [List.length_drop] at *
      omega
    · rcases List.mem_append.1 hp with h | h
      · exact h1 p (hullF_mem h)
      · exact h2 p (hullF_mem h)
set_option maxRecDepth 100000 in
set_option maxHeartbeats 8000000 in
theorem core (w : World) (a0 : Option Addr) (n0 c0 : Nat) (z0 : Nat → Int) (g0 : IntsAtK .i64 w w.heap.size a0 n0 z0) (hn : n0 ≤ 1000000000000000) (x : Int) :
    Calls Try.prog 5 #[.slice a0 n0 c0, .int .i64 x] w fun e w' => e = .returned (.bool true) ∧ Below w.heap.size w w' := by
  obtain ⟨i1, hj, hy0, hy1, hy2⟩ := info_parts info_pt
  have HAW := Lib.hid awake_any
  have HNE := Lib.hid (near_any a0 n0 c0 z0 70 w g0 hn (by omega) (by omega))
  clear g0 hn
  go_enter Try.func5, Try.ntmps5
  go_wp2_with fail
  refine HNE.out.mono ?_
  rintro e w1 ⟨ao, c, l, rfl, hl12, hsm, ho, hb, hnil⟩
  have HB1 := Lib.hid hb
  have hP := pAt_own rfl ho
  have hlc : l.length ≤ c := by obtain ⟨_, _, e, h, _⟩ := own_form ho; cases e; exact h
  have ex : bits BinOp.and IntKind.i64 x 65535 = x % 65536 := i64_and_mask x 16 (by omega) 65535 rfl
  have hx0 : 0 ≤ x % 65536 := Int.emod_nonneg _ (by omega)
  have HAL : Hid (∀ wx, Below w1.heap.size w1 wx → Calls Try.prog 10 #[.slice ao l.length c] wx (OfTold wx l)) := fun wx hx => hof_any ao c l wx (hP.below hx) (by omega)
  have hsmall : Small 1000000 l := fun q hq => by have := hsm q hq; omega
  have hokl := hsmall.ok (by omega) (by omega)
  by_cases hn0 : l.length = 0
  · obtain ⟨rfl, rfl⟩ := hnil hn0
    rw [hn0] at HAL ⊢
    have hof : ∀ wx, Calls Try.prog 10 #[.slice none 0 0] wx fun e w' => ∃ ao c, e = .returned (.slice ao 0 c) ∧ Below wx.heap.size wx w' := fun wx => (hof_any none 0 [] wx (fun h => by simp at h) (by simp)).mono fun e w' ⟨ao, c, h1, _, _, _, h2⟩ => ⟨ao, c, by rw [hullF_nil] at h1; exact h1, h2⟩
    have HOF := Lib.hid hof
    have hx1 : x % 65536 % 1 = 0 := by omega
    clear hof hP hlc hnil hn0 hsm ho hb HAL hsmall hokl hl12
    go_upto_region 3 with (fail)
    refine wp_region_inw ([.inl (.slice none 0 0), .inl (.int .i64 0), .inl (.slice none 0 0), .inr (wPts []), .inl (.slice none 0 0), .inl (.int .i64 0), .inl (.slice none 0 0), .inr (wPts []), .inr (wPts []), .inr (wPts [])] : List Want) [] (by kernel_rfl) (by kernel_rfl) (by kernel_rfl) ?_
    refine inw_cons (fun wx hg hd => ?_) (fun v0 => ?_)
    · have hx := ((Below.refl w1.heap.size w1).drew).trans hg
      clear hd hg
      go_wp2
      exact ⟨_, rfl, Below.refl _ _, rfl⟩
    (try simp only [List.nil_append, Act.put, List.setIfInBounds_toArray, List.set_cons_zero, List.set_cons_succ])
    refine inw_cons (fun wx hg hd => ?_) (fun v1 => ?_)
    · have hx := ((Below.refl w1.heap.size w1).drew).trans hg
      clear hd hg
      go_wp2
      exact ⟨_, rfl, Below.refl _ _, rfl⟩
    (try simp only [List.cons_append, List.nil_append, Act.put, List.setIfInBounds_toArray, List.set_cons_zero, List.set_cons_succ])
    refine inw_cons (fun wx hg hd => ?_) (fun v2 => ?_)
    · have hx := ((Below.refl w1.heap.size w1).drew).trans hg
      (try (have ee : v0 = (.slice none 0 0 : Value) := hd 0 (by simp) (by decide); subst ee))
      (try (have ee : v1 = (.int .i64 0 : Value) := hd 1 (by simp) (by decide); subst ee))
      clear hd hg
      go_wp2
      exact ⟨_, rfl, Below.refl _ _, rfl⟩
    (try simp only [List.cons_append, List.nil_append, Act.put, List.setIfInBounds_toArray, List.set_cons_zero, List.set_cons_succ])
    refine inw_cons (fun wx hg hd => ?_) (fun v3 => ?_)
    · have hx := ((Below.refl w1.heap.size w1).drew).trans hg
      (try (have ee : v2 = (.slice none 0 0 : Value) := hd 2 (by simp) (by decide); subst ee))
      clear hd hg
      go_wp2_with fail
      refine (HOF.out _).mono ?_
      rintro e w' ⟨ag, cg, rfl, hb⟩
      go_wp2
      exact ⟨_, rfl, hb, ag, cg, rfl, fun h => by simp at h, Nat.zero_le _⟩
    (try simp only [List.cons_append, List.nil_append, Act.put, List.setIfInBounds_toArray, List.set_cons_zero, List.set_cons_succ])
    refine inw_cons (fun wx hg hd => ?_) (fun v4 => ?_)
    · have hx := ((Below.refl w1.heap.size w1).drew).trans hg
      clear hd hg
      go_wp2
      exact ⟨_, rfl, Below.refl _ _, rfl⟩
    (try simp only [List.cons_append, List.nil_append, Act.put, List.setIfInBounds_toArray, List.set_cons_zero, List.set_cons_succ])
    refine inw_cons (fun wx hg hd => ?_) (fun v5 => ?_)
    · have hx := ((Below.refl w1.heap.size w1).drew).trans hg
      clear hd hg
      go_wp2
      exact ⟨_, rfl, Below.refl _ _, rfl⟩
    (try simp only [List.cons_append, List.nil_append, Act.put, List.setIfInBounds_toArray, List.set_cons_zero, List.set_cons_succ])
    refine inw_cons (fun wx hg hd => ?_) (fun v6 => ?_)
    · have hx := ((Below.refl w1.heap.size w1).drew).trans hg
      (try (have ee : v4 = (.slice none 0 0 : Value) := hd 4 (by simp) (by decide); subst ee))
      (try (have ee : v5 = (.int .i64 0 : Value) := hd 5 (by simp) (by decide); subst ee))
      clear hd hg
      go_wp2
      exact ⟨_, rfl, Below.refl _ _, rfl⟩
    (try simp only [List.cons_append, List.nil_append, Act.put, List.setIfInBounds_toArray, List.set_cons_zero, List.set_cons_succ])
    refine inw_cons (fun wx hg hd => ?_) (fun v7 => ?_)
    · have hx := ((Below.refl w1.heap.size w1).drew).trans hg
      (try (have ee : v6 = (.slice none 0 0 : Value) := hd 6 (by simp) (by decide); subst ee))
      clear hd hg
      go_wp2_with fail
      refine (HOF.out _).mono ?_
      rintro e w' ⟨ag, cg, rfl, hb⟩
      go_wp2
      exact ⟨_, rfl, hb, ag, cg, rfl, fun h => by simp at h, Nat.zero_le _⟩
    (try simp only [List.cons_append, List.nil_append, Act.put, List.setIfInBounds_toArray, List.set_cons_zero, List.set_cons_succ])
    refine inw_cons (fun wx hg hd => ?_) (fun v8 => ?_)
    · have hx := ((Below.refl w1.heap.size w1).drew).trans hg
      have hp3 : (wPts [] : SP).1 v3 wx := hd 3 (by simp) (by decide)
      clear hd hg
      obtain ⟨ag, cg, rfl, h1, h2⟩ := hp3
      go_wp2
      exact ⟨_, rfl, Below.refl _ _, ag, cg, rfl, h1, h2⟩
    (try simp only [List.cons_append, List.nil_append, Act.put, List.setIfInBounds_toArray, List.set_cons_zero, List.set_cons_succ])
    refine inw_cons (fun wx hg hd => ?_) (fun v9 => ?_)
    · have hx := ((Below.refl w1.heap.size w1).drew).trans hg
      have hp7 : (wPts [] : SP).1 v7 wx := hd 7 (by simp) (by decide)
      clear hd hg
      obtain ⟨ag, cg, rfl, h1, h2⟩ := hp7
      go_wp2
      exact ⟨_, rfl, Below.refl _ _, ag, cg, rfl, h1, h2⟩
    (try simp only [List.cons_append, List.nil_append, Act.put, List.setIfInBounds_toArray, List.set_cons_zero, List.set_cons_succ])
    refine inw_done (fun wx hg hd => ?_)
    have hx := ((Below.refl w1.heap.size w1).drew).trans hg
    (have ee : v0 = (.slice none 0 0 : Value) := hd 0 (by simp) (by kernel_rfl); subst ee)
    (have ee : v1 = (.int .i64 0 : Value) := hd 1 (by simp) (by kernel_rfl); subst ee)
    (have ee : v2 = (.slice none 0 0 : Value) := hd 2 (by simp) (by kernel_rfl); subst ee)
    have hp3 : (wPts [] : SP).1 v3 wx := hd 3 (by simp) (by kernel_rfl)
    (have ee : v4 = (.slice none 0 0 : Value) := hd 4 (by simp) (by kernel_rfl); subst ee)
    (have ee : v5 = (.int .i64 0 : Value) := hd 5 (by simp) (by kernel_rfl); subst ee)
    (have ee : v6 = (.slice none 0 0 : Value) := hd 6 (by simp) (by kernel_rfl); subst ee)
    have hp7 : (wPts [] : SP).1 v7 wx := hd 7 (by simp) (by kernel_rfl)
    have hp8 : (wPts [] : SP).1 v8 wx := hd 8 (by simp) (by kernel_rfl)
    have hp9 : (wPts [] : SP).1 v9 wx := hd 9 (by simp) (by kernel_rfl)
    clear hd hg
    (try go_simp)
    obtain ⟨ag, cg, rfl, _, _⟩ := hp8
    have HBX : Hid (Below w.heap.size w wx) := HB1.out.trans (hx.mono HB1.out.size)
    rw [show ([] : List Pt).length = 0 from rfl]
    clear hp9 hp3 hp7 hx
    go_wp2_with fail
    refine (HAW.out _).mono ?_
    rintro e w7 ⟨rfl, hb7⟩
    have HF : Hid (Below w.heap.size w w7) := HBX.out.trans (hb7.mono HBX.out.size)
    clear hb7
    go_wp2
    go_ret
    exact ⟨rfl, HF.out⟩
  · obtain ⟨g, rfl⟩ := own_slice ho (by omega)
    obtain ⟨k, hk⟩ : ∃ k : Nat, x % 65536 % ((l.length : Int) + 1) = (k : Int) := ⟨(x % 65536 % ((l.length : Int) + 1)).toNat, by have := Int.emod_nonneg (x % 65536) (show ((l.length : Int) + 1) ≠ 0 by omega); omega⟩
    have hkn : k ≤ l.length := by have := Int.emod_lt_of_pos (x % 65536) (show 0 < ((l.length : Int) + 1) by omega); omega
    have HOA : Hid (∀ wx, Below w1.heap.size w1 wx → Calls Try.prog 10 #[.slice (some ⟨g, 0, none⟩) (l.take k).length c] wx (OfTold wx (l.take k))) := fun wx hx => hof_any _ c _ wx (pAt_take (hP.below hx) hkn) (by rw [List.length_take]; omega)
    have HOB : Hid (∀ wx, Below w1.heap.size w1 wx → Calls Try.prog 10 #[.slice (if c = k then some ⟨g, 0, none⟩ else some ⟨g, k * 2, none⟩) (l.drop k).length (c - k)] wx (OfTold wx (l.drop k))) := fun wx hx => hof_any _ _ _ wx (pAt_drop (hP.below hx) hkn hlc) (by rw [List.length_drop]; omega)
    rw [List.length_take, Nat.min_eq_left hkn] at HOA
    rw [List.length_drop] at HOB
    obtain ⟨ad, had⟩ : ∃ ad, (if c = k then some (⟨g, 0, none⟩ : Addr) else some ⟨g, k * 2, none⟩) = ad := ⟨_, rfl⟩
    rw [had] at HOB
    have HAD : Hid ((c = k ∧ ad = some (⟨g, 0, none⟩ : Addr)) ∨ (¬ c = k ∧ ad = some ⟨g, k * 2, none⟩)) := by
      by_cases h : c = k
      · exact .inl ⟨h, by rw [← had, if_pos h]⟩
      · exact .inr ⟨h, by rw [← had, if_neg h]⟩
    clear had
    have HLAW := Lib.hid (law_joins k hokl hl12)
    have HSA : Hid (Small 1000000 (hullF (l.take k)) ∧ (hullF (l.take k)).length ≤ 12) := ⟨Small.hull fun q hq => hsmall q (List.mem_of_mem_take hq), by have := hullF_len (l.take k); rw [List.length_take] at this; omega⟩
    have HSB : Hid (Small 1000000 (hullF (l.drop k)) ∧ (hullF (l.drop k)).length ≤ 12) := ⟨Small.hull fun q hq => hsmall q (List.mem_of_mem_drop hq), by have := hullF_len (l.drop k); rw [List.length_drop] at this; omega⟩
    have HSL : Hid (Small 1000000 (hullF l) ∧ (hullF l).length ≤ 12) := ⟨hsmall.hull, by have := hullF_len l; omega⟩
    unfold OfTold at HAL HOA HOB
    clear hsm ho hb hnil hsmall hokl hP
    generalize hullF (l.take k) = A at *
    generalize hullF (l.drop k) = B at *
    generalize hullF l = H at *
    obtain ⟨n, hnl⟩ : ∃ n, l.length = n := ⟨_, rfl⟩
    rw [hnl] at HAL HOB hk hkn hl12 hlc hn0 ⊢
    clear hnl
    have hkc : (k : Int) ≤ (c : Int) := by omega
    go_upto_region 3 with (fail)
    rw [hk]
    clear hk ex hx0
    refine wp_region_inw ([.inl (.slice (some ⟨g, 0, none⟩) n c), .inl (.int .i64 (k : Int)), .inl (.slice (some ⟨g, 0, none⟩) k c), .inr (wPts A), .inl (.slice (some ⟨g, 0, none⟩) n c), .inl (.int .i64 (k : Int)), .inl (.slice ad (n - k) (c - k)), .inr (wPts B), .inr (wPts A), .inr (wPts B)] : List Want) [] (by kernel_rfl) (by kernel_rfl) (by kernel_rfl) ?_
    refine inw_cons (fun wx hg hd => ?_) (fun v0 => ?_)
    · have hx := ((Below.refl w1.heap.size w1).drew).trans hg
      clear hd hg
      go_wp2
      exact ⟨_, rfl, Below.refl _ _, rfl⟩
    (try simp only [List.nil_append, Act.put, List.setIfInBounds_toArray, List.set_cons_zero, List.set_cons_succ])
    refine inw_cons (fun wx hg hd => ?_) (fun v1 => ?_)
    · have hx := ((Below.refl w1.heap.size w1).drew).trans hg
      clear hd hg
      go_wp2
      exact ⟨_, rfl, Below.refl _ _, rfl⟩
    (try simp only [List.cons_append, List.nil_append, Act.put, List.setIfInBounds_toArray, List.set_cons_zero, List.set_cons_succ])
    refine inw_cons (fun wx hg hd => ?_) (fun v2 => ?_)
    · have hx := ((Below.refl w1.heap.size w1).drew).trans hg
      (try (have ee : v0 = (.slice (some ⟨g, 0, none⟩) n c : Value) := hd 0 (by simp) (by decide); subst ee))
      (try (have ee : v1 = (.int .i64 (k : Int) : Value) := hd 1 (by simp) (by decide); subst ee))
      clear hd hg
      go_wp2
      exact ⟨_, rfl, Below.refl _ _, rfl⟩
    (try simp only [List.cons_append, List.nil_append, Act.put, List.setIfInBounds_toArray, List.set_cons_zero, List.set_cons_succ])
    refine inw_cons (fun wx hg hd => ?_) (fun v3 => ?_)
    · have hx := ((Below.refl w1.heap.size w1).drew).trans hg
      (try (have ee : v2 = (.slice (some ⟨g, 0, none⟩) k c : Value) := hd 2 (by simp) (by decide); subst ee))
      clear hd hg
      go_wp2_with fail
      refine (HOA.out _ hx).mono ?_
      rintro e w' ⟨ag, cg, rfl, h1, h2, _, hb⟩
      go_wp2
      exact ⟨_, rfl, hb, ag, cg, rfl, h1, h2⟩
    (try simp only [List.cons_append, List.nil_append, Act.put, List.setIfInBounds_toArray, List.set_cons_zero, List.set_cons_succ])
    refine inw_cons (fun wx hg hd => ?_) (fun v4 => ?_)
    · have hx := ((Below.refl w1.heap.size w1).drew).trans hg
      clear hd hg
      go_wp2
      exact ⟨_, rfl, Below.refl _ _, rfl⟩
    (try simp only [List.cons_append, List.nil_append, Act.put, List.setIfInBounds_toArray, List.set_cons_zero, List.set_cons_succ])
    refine inw_cons (fun wx hg hd => ?_) (fun v5 => ?_)
    · have hx := ((Below.refl w1.heap.size w1).drew).trans hg
      clear hd hg
      go_wp2
      exact ⟨_, rfl, Below.refl _ _, rfl⟩
    (try simp only [List.cons_append, List.nil_append, Act.put, List.setIfInBounds_toArray, List.set_cons_zero, List.set_cons_succ])
    refine inw_cons (fun wx hg hd => ?_) (fun v6 => ?_)
    · have hx := ((Below.refl w1.heap.size w1).drew).trans hg
      (try (have ee : v4 = (.slice (some ⟨g, 0, none⟩) n c : Value) := hd 4 (by simp) (by decide); subst ee))
      (try (have ee : v5 = (.int .i64 (k : Int) : Value) := hd 5 (by simp) (by decide); subst ee))
      clear hd hg
      rcases HAD.out with ⟨h, e⟩ | ⟨h, e⟩
      · subst h e; go_wp2; exact ⟨_, rfl, Below.refl _ _, rfl⟩
      · subst e; go_wp2; exact ⟨_, rfl, Below.refl _ _, rfl⟩
    (try simp only [List.cons_append, List.nil_append, Act.put, List.setIfInBounds_toArray, List.set_cons_zero, List.set_cons_succ])
    refine inw_cons (fun wx hg hd => ?_) (fun v7 => ?_)
    · have hx := ((Below.refl w1.heap.size w1).drew).trans hg
      (try (have ee : v6 = (.slice ad (n - k) (c - k) : Value) := hd 6 (by simp) (by decide); subst ee))
      clear hd hg
      go_wp2_with fail
      refine (HOB.out _ hx).mono ?_
      rintro e w' ⟨ag, cg, rfl, h1, h2, _, hb⟩
      go_wp2
      exact ⟨_, rfl, hb, ag, cg, rfl, h1, h2⟩
    (try simp only [List.cons_append, List.nil_append, Act.put, List.setIfInBounds_toArray, List.set_cons_zero, List.set_cons_succ])
    refine inw_cons (fun wx hg hd => ?_) (fun v8 => ?_)
    · have hx := ((Below.refl w1.heap.size w1).drew).trans hg
      have hp3 : (wPts A : SP).1 v3 wx := hd 3 (by simp) (by decide)
      clear hd hg
      obtain ⟨ag, cg, rfl, h1, h2⟩ := hp3
      go_wp2
      exact ⟨_, rfl, Below.refl _ _, ag, cg, rfl, h1, h2⟩
    (try simp only [List.cons_append, List.nil_append, Act.put, List.setIfInBounds_toArray, List.set_cons_zero, List.set_cons_succ])
    refine inw_cons (fun wx hg hd => ?_) (fun v9 => ?_)
    · have hx := ((Below.refl w1.heap.size w1).drew).trans hg
      have hp7 : (wPts B : SP).1 v7 wx := hd 7 (by simp) (by decide)
      clear hd hg
      obtain ⟨ag, cg, rfl, h1, h2⟩ := hp7
      go_wp2
      exact ⟨_, rfl, Below.refl _ _, ag, cg, rfl, h1, h2⟩
    (try simp only [List.cons_append, List.nil_append, Act.put, List.setIfInBounds_toArray, List.set_cons_zero, List.set_cons_succ])
    refine inw_done (fun wx hg hd => ?_)
    have hx := ((Below.refl w1.heap.size w1).drew).trans hg
    (have ee : v0 = (.slice (some ⟨g, 0, none⟩) n c : Value) := hd 0 (by simp) (by kernel_rfl); subst ee)
    (have ee : v1 = (.int .i64 (k : Int) : Value) := hd 1 (by simp) (by kernel_rfl); subst ee)
    (have ee : v2 = (.slice (some ⟨g, 0, none⟩) k c : Value) := hd 2 (by simp) (by kernel_rfl); subst ee)
    have hp3 : (wPts A : SP).1 v3 wx := hd 3 (by simp) (by kernel_rfl)
    (have ee : v4 = (.slice (some ⟨g, 0, none⟩) n c : Value) := hd 4 (by simp) (by kernel_rfl); subst ee)
    (have ee : v5 = (.int .i64 (k : Int) : Value) := hd 5 (by simp) (by kernel_rfl); subst ee)
    (have ee : v6 = (.slice ad (n - k) (c - k) : Value) := hd 6 (by simp) (by kernel_rfl); subst ee)
    have hp7 : (wPts B : SP).1 v7 wx := hd 7 (by simp) (by kernel_rfl)
    have hp8 : (wPts A : SP).1 v8 wx := hd 8 (by simp) (by kernel_rfl)
    have hp9 : (wPts B : SP).1 v9 wx := hd 9 (by simp) (by kernel_rfl)
    clear hd hg
    (try go_simp)
    obtain ⟨aa, ca, rfl, hpa, -⟩ := hp8
    obtain ⟨ab, cb, rfl, hpb, -⟩ := hp9
    have HBX : Hid (Below w.heap.size w wx) := HB1.out.trans (hx.mono HB1.out.size)
    have HX := Lib.hid hx
    have HPA := Lib.hid hpa
    have HPB := Lib.hid hpb
    obtain ⟨na, hna⟩ : ∃ na, A.length = na := ⟨_, rfl⟩
    obtain ⟨nb, hnb⟩ : ∃ nb, B.length = nb := ⟨_, rfl⟩
    have HNA := Lib.hid hna
    have HNB := Lib.hid hnb
    rw [hna] at HSA ⊢
    rw [hnb] at HSB ⊢
    have ha12 := HSA.out.2
    have hb12 := HSB.out.2
    clear hp3 hp7 hx hna hnb HOA HOB hpa hpb
    by_cases hz : na = 0 ∨ nb = 0
    · rcases Nat.eq_zero_or_pos na with hz1 | hz1
      · subst hz1
        clear hz HAL HLAW
        go_wp2_with fail
        refine (HAW.out _).mono ?_
        rintro e w7 ⟨rfl, hb7⟩
        have HF : Hid (Below w.heap.size w w7) := HBX.out.trans (hb7.mono HBX.out.size)
        clear hb7
        go_wp2
        go_ret
        exact ⟨rfl, HF.out⟩
      · obtain rfl : nb = 0 := by omega
        have q0 : ((na : Int) == 0) = false := by simp; omega
        clear hz HAL HLAW
        go_wp2_with fail
        refine (HAW.out _).mono ?_
        rintro e w7 ⟨rfl, hb7⟩
        have HF : Hid (Below w.heap.size w w7) := HBX.out.trans (hb7.mono HBX.out.size)
        clear hb7
        go_wp2
        go_ret
        exact ⟨rfl, HF.out⟩
    · have ha0 : 0 < na := by omega
      have hb0 : 0 < nb := by omega
      have q0 : ((na : Int) == 0) = false := by simp; omega
      have q1 : ((nb : Int) == 0) = false := by simp; omega
      have hlaw := HLAW.out (fun e => by have := HNA.out; rw [e] at this; simp at this; omega) (fun e => by have := HNB.out; rw [e] at this; simp at this; omega)
      have HL2 := Lib.hid hlaw
      have HAL2 := Lib.hid (HAL.out wx HX.out)
      clear hlaw HLAW hz HAL
      go_wp2_with fail
      refine HAL2.out.mono ?_
      rintro e w2 ⟨al, cl, rfl, hpl, _, _, hb2⟩
      have HB2 := Lib.hid hb2
      have HPL := Lib.hid hpl
      have HN0 : Hid ((w2.alloc (.cells #[] 26)).heap[w2.heap.size]? = some (.cells #[] 26 (0, 0))) := heap_new _ _ _ rfl
      have HBA : Hid (Below w2.heap.size w2 (w2.alloc (.cells #[] 26))) := (Below.refl _ _).alloc (Nat.le_refl _) _
      obtain ⟨ba, oa, rfl, _, hnwa⟩ := pAt_news HPA.out (by rw [HNA.out]; exact ha0)
      obtain ⟨bb, ob, rfl, _, hnwb⟩ := pAt_news HPB.out (by rw [HNB.out]; exact hb0)
      have HWA := Lib.hid hnwa
      have HWB := Lib.hid hnwb
      have HVA : Hid ((pV A).length = na * 2) := by show _ = _; rw [pV_length, HNA.out]
      have HVB : Hid ((pV B).length = nb * 2) := by show _ = _; rw [pV_length, HNB.out]
      have HWX2 : Hid (Below wx.heap.size wx (w2.alloc (.cells #[] 26))) := HB2.out.trans (HBA.out.mono HB2.out.size)
      have HOE : Hid ((w2.alloc (.cells #[] 26)).ownsRow w2.heap.size 26 2 (.slice (some ⟨w2.heap.size, 0, none⟩) 0 0) 0 []) := World.ownsRow_lit (size := 2) (e := 26) w2 #[] 0 (Nat.le_refl _) (by decide) rfl
      clear hb2 hpl hnwa hnwb HAL2
      have hsz2 : w2.heap.size ≤ (w2.alloc (.cells #[] 26)).heap.size := HBA.out.size
      have HCO : Hid (∀ v4 w3, w3.ownsRow w2.heap.size 26 2 v4 (na + nb) (pV A ++ pV B) → ∃ ao c, v4 = .slice ao (na + nb) c ∧ Calls Try.prog 10 #[.slice ao (na + nb) c] w3 fun e w' => ∃ ag cg, e = .returned (.slice ag H.length cg) ∧ PAt w' ag H ∧ Below w3.heap.size w3 w') := fun v4 w3 ho => by
        obtain ⟨ao, c, rfl, _⟩ := own_form ho
        have hl : (A ++ B).length = na + nb := by rw [List.length_append, HNA.out, HNB.out]
        refine ⟨ao, c, rfl, ?_⟩
        have := hof_any ao c (A ++ B) w3 (pAt_own hl.symm (by rw [pV_append]; exact ho)) (by rw [hl]; omega)
        rw [hl] at this
        refine this.mono fun e w' ⟨ag, cg, h1, h2, _, _, h3⟩ => ⟨ag, cg, ?_, ?_, h3⟩
        · rw [← HL2.out.1] at h1; exact h1
        · rw [← HL2.out.1] at h2; exact h2
      go_upto_region 8 with (first
        | (at_builtin; refine wpList_append_own _ rfl (.tmp 38) (.tmp 39) 23 rfl w2.heap.size 26 i1 (.agg #[.int .i64 0, .int .i64 0]) 2 16 Try.underlying23 hj hy0 hy1 hy2 rfl (by decide) _ _ _ rfl HOE.out ⟨ba, oa, none⟩ na ca (pV A) rfl HVA.out (HWA.out _ HWX2.out) (pV_cell A) (by unfold maxLen; omega) (by omega) hsz2 ?_; intro v3 w3 ho3 hgr3 _; have hb3 := below_append HBA.out HOE.out hsz2 hgr3; rw [Nat.zero_add, List.nil_append] at ho3; have HWX3 := Lib.hid (HB2.out.trans (hb3.mono HB2.out.size)); have hsz3 := hb3.size)
        | (at_builtin; refine wpList_append_own _ rfl (.tmp 40) (.tmp 41) 23 rfl w2.heap.size 26 i1 (.agg #[.int .i64 0, .int .i64 0]) 2 16 Try.underlying23 hj hy0 hy1 hy2 rfl (by decide) _ _ _ rfl ho3 ⟨bb, ob, none⟩ nb cb (pV B) rfl HVB.out (HWB.out _ HWX3.out) (pV_cell B) (by unfold maxLen; omega) (by omega) hsz3 ?_; intro v4 w4 ho4 hgr4 _; have hb4 := below_append hb3 ho3 hsz3 hgr4; obtain ⟨a4, c4, rfl, hco4⟩ := HCO.out v4 w4 ho4; have HCO4 := Lib.hid hco4; have HB4 := Lib.hid hb4; clear hco4 ho4 hgr4 ho3 hgr3 hb3 hb4)
        | (go_at_call 10; refine HCO4.out.mono ?_; rintro e w5 ⟨ag, cg, rfl, hpg, hb5⟩))
      have HPG := Lib.hid hpg
      have HB5 : Hid (Below w2.heap.size w2 w5) := HB4.out.trans (hb5.mono HB4.out.size)
      clear hpg hb5 HCO HCO4 HB4 HOE HBA hsz2 HWX3 hsz3 HWA HWB HVA HVB
      have HX5 : Hid (Below wx.heap.size wx w5) := HB2.out.trans (HB5.out.mono HB2.out.size)
      have HWW5 : Hid (Below w.heap.size w w5) := HBX.out.trans (HX5.out.mono HBX.out.size)
      have hsm := same_any al ag cl cg H H w5 (HPL.out.below HB5.out) HPG.out (by have := HSL.out.2; omega) (by have := HSL.out.2; omega)
      rw [decide_eq_true (rfl : H = H)] at hsm
      have HSM := Lib.hid hsm
      have HAH := Lib.hid (area_in HSL.out.1 (by have := HSL.out.2; omega) (HPL.out.below HB5.out) (c := cl))
      have haa := area_in HSA.out.1 (by rw [HNA.out]; omega) (HPA.out.below HX5.out) (c := ca)
      have hab := area_in HSB.out.1 (by rw [HNB.out]; omega) (HPB.out.below HX5.out) (c := cb)
      rw [HNA.out] at haa
      rw [HNB.out] at hab
      have HAA := Lib.hid haa
      have HAB := Lib.hid hab
      have hle1 := HL2.out.2.1
      have hle2 := HL2.out.2.2
      clear hsm haa hab HL2 HSA HSB HSL HPA HPB HPL HPG HNA HNB
      generalize area H = rh at *
      generalize area A = ra at *
      generalize area B = rb at *
      generalize H.length = m at *
      go_wp2_with fail
      refine HSM.out.mono ?_
      rintro e w6 ⟨rfl, hb⟩
      have HB6 := Lib.hid hb
      clear hb
      go_wp2_with fail
      refine (HAH.out _ HB6.out).mono ?_
      rintro e w7 ⟨rfl, hb⟩
      have HB7 : Hid (Below w5.heap.size w5 w7) := HB6.out.trans (hb.mono HB6.out.size)
      clear hb
      go_wp2_with fail
      refine (HAA.out _ HB7.out).mono ?_
      rintro e w8 ⟨rfl, hb⟩
      have HB8 : Hid (Below w5.heap.size w5 w8) := HB7.out.trans (hb.mono HB7.out.size)
      clear hb
      go_wp2_with fail
      refine (HAH.out _ HB8.out).mono ?_
      rintro e w9 ⟨rfl, hb⟩
      have HB9 : Hid (Below w5.heap.size w5 w9) := HB8.out.trans (hb.mono HB8.out.size)
      clear hb
      go_wp2_with fail
      refine (HAB.out _ HB9.out).mono ?_
      rintro e w10 ⟨rfl, hb⟩
      have HB10 : Hid (Below w5.heap.size w5 w10) := HB9.out.trans (hb.mono HB9.out.size)
      clear hb
      go_wp2_with fail
      refine (HAW.out _).mono ?_
      rintro e w11 ⟨rfl, hb⟩
      have HF : Hid (Below w.heap.size w w11) := HWW5.out.trans ((HB10.out.trans (hb.mono HB10.out.size)).mono HWW5.out.size)
      clear hb
      go_wp2
      go_ret
      exact ⟨rfl, HF.out⟩
theorem walk {w : World} (a0 : Option Addr) (n0 c0 : Nat) (z0 : Nat → Int) (g0 : IntsAtK .i64 w w.heap.size a0 n0 z0) (_b0 : ∀ i, i < n0 → (Lit.int .i64 (z0 i)).wf = true) (s0 : n0 * 8 ≤ 140737488351232) (a1 : Int) (_w1 : (Lit.int .i64 a1).wf = true) :
    Calls Try.prog 5 #[.slice a0 n0 c0, .int .i64 a1] w fun e w' => e = .returned (.bool true) ∧ Below w.heap.size w w' := core w a0 n0 c0 z0 g0 (by omega) a1
end Go.Proofs.Ytcoffankmmjehaa.hullJoins
