/- The contract of apiaryref9.Hull: wound round from the least point on. -/
import Derived.Test.YtcoffankmmjehaaHullV
namespace Go.Proofs.Ytcoffankmmjehaa
open Go.RowKit Go.Lib Hull

/-- In w, block g holds a point. -/
def Pb (w : World) (g : Nat) (p : Pt) : Prop := w.heap[g]? = some (.cells #[.int .i64 p.1, .int .i64 p.2] 26 (0, 0))
theorem Pb.lt {w : World} {g : Nat} {p : Pt} (h : Pb w g p) : g < w.heap.size := (Array.getElem?_eq_some_iff.1 h).1
theorem Pb.below {w w' : World} {g : Nat} {p : Pt} (h : Pb w g p) (hb : Below w.heap.size w w') : Pb w' g p := (hb.block g h.lt).trans h
theorem Pb.cells {w : World} {g : Nat} {p : Pt} (h : Pb w g p) : w.cell? ⟨g, 0, none⟩ = some (.int .i64 p.1) ∧ w.cell? ⟨g, 1, none⟩ = some (.int .i64 p.2) ∧ w.frozen? ⟨g, 0, none⟩ = false ∧ w.frozen? ⟨g, 1, none⟩ = false ∧ g < w.heap.size :=
  ⟨cell_of_row _ _ 0 _ _ _ h, cell_of_row _ _ 1 _ _ _ h, by simp [World.frozen?, show w.heap[g]? = _ from h], by simp [World.frozen?, show w.heap[g]? = _ from h], h.lt⟩
theorem Pb.turn {w w' : World} {g x : Nat} {p : Pt} (h : Pb w g p) (ht : Turn (fun k => k = x) w w') (hne : g ≠ x) : Pb w' g p := (ht.2.2.2.2 g h.lt hne).trans h
def putP (w : World) (g : Nat) (p : Pt) : World := (w.setCell ⟨g, 0, none⟩ (.int .i64 p.1)).setCell ⟨g, 1, none⟩ (.int .i64 p.2)
theorem Pb.put {w : World} {g : Nat} {p : Pt} (h : Pb w g p) (q : Pt) : Pb (putP w g q) g q ∧ Turn (fun k => k = g) w (putP w g q) := ⟨set_pt h _ _, ((Turn.refl (fun k => k = g) w).setCell (a := ⟨g, 0, none⟩) rfl _).setCell (a := ⟨g, 1, none⟩) rfl _⟩
theorem pb_new (w : World) (p : Pt) : Pb (w.alloc (.cells #[.int .i64 p.1, .int .i64 p.2] 26)) w.heap.size p ∧ Below w.heap.size w (w.alloc (.cells #[.int .i64 p.1, .int .i64 p.2] 26)) := ⟨heap_new _ _ _ rfl, (Below.refl _ _).alloc (Nat.le_refl _) _⟩
theorem Pb.grown {w w' : World} {g n c : Nat} {vo : Option Addr} {p : Pt} (h : Pb w g p) (hg : w.grownBy w' (Value.slice vo n c).ownBlock) (hne : ∀ g' o s, vo = some ⟨g', o, s⟩ → g' ≠ g) : Pb w' g p := by
  refine (hg.block g h.lt fun e => ?_).trans h
  cases vo with
  | none => cases e
  | some a =>
    obtain ⟨g', o, s⟩ := a
    have := hne g' o s rfl
    simp only [Value.ownBlock, Option.some.injEq] at e
    exact this (by first | exact e | exact e.symm)
/-- The least of the first k points. -/
def Least (l : List Pt) (k : Nat) (f : Pt) : Prop := f ∈ l ∧ ∀ j, j < k → ltB (pg l j) f = false
theorem ltB_trans' {a b c : Pt} (h1 : ltB a b = true) (h2 : ltB c b = false) : ltB c a = false := by
  cases e : ltB c a
  · rfl
  · exfalso
    rw [ltB_iff] at h1 e
    have := (ltB_iff c b).2 (lt_trans' sg1 e h1)
    rw [h2] at this; cases this
theorem Least.step {l : List Pt} {k : Nat} {f : Pt} (h : Least l k f) (hk : k < l.length) : Least l (k + 1) (if ltB (pg l k) f = true then pg l k else f) := by
  split
  · rename_i hl
    refine ⟨pg_mem hk, fun j hj => ?_⟩
    rcases Nat.lt_or_ge j k with h1 | h1
    · exact ltB_trans' hl (h.2 j h1)
    · obtain rfl : j = k := by omega
      exact ltB_irrefl _
  · rename_i hl
    refine ⟨h.1, fun j hj => ?_⟩
    rcases Nat.lt_or_ge j k with h1 | h1
    · exact h.2 j h1
    · obtain rfl : j = k := by omega
      simpa using hl
set_option maxHeartbeats 16000000 in
set_option maxRecDepth 100000 in
theorem rhull_any (ao : Option Addr) (c : Nat) (l : List Pt) (w : World) (h : PAt w ao l) (hn : l.length ≤ 1000000000) :
    Calls Try.prog 17 #[.slice ao l.length c] w (OfTold w l) := by
  obtain ⟨i1, hj, hy0, hy1, hy2⟩ := info_parts info_pt
  have hsm := rsmall_any ao c l 1000 w h hn
  rw [small_ok] at hsm
  have HSM := Lib.hid hsm
  have HW := Lib.hid h
  have HNIL : Hid (∀ w', hullF l = [] → Below w.heap.size w w' → OfTold w l (.returned (.slice none 0 0)) w') := fun w' he hb => by
    unfold OfTold; rw [he]
    exact ⟨none, 0, rfl, fun h => by simp at h, Nat.le_refl _, fun _ _ _ h => by (cases h), hb⟩
  clear h hsm
  cases hok : okB l
  · have HE : Hid (hullF l = []) := by show _ = _; unfold hullF; rw [if_neg (fun h => by rw [hok] at h; cases h.1)]
    rw [hok] at HSM
    clear hok
    go_enter Try.func17, Try.ntmps17
    go_wp2_with fail
    refine HSM.out.mono ?_
    rintro e w1 ⟨rfl, hb⟩
    have HF := Lib.hid (HNIL.out w1 HE.out hb)
    clear hb
    go_wp2
    go_ret
    exact HF.out
  · have hOK := (okB_iff l).1 hok
    have HNR := Lib.hid hOK.2
    have hn2 := hOK.1
    rw [hok] at HSM
    by_cases hl0 : l.length = 0
    · have HE : Hid (hullF l = []) := by show _ = _; rw [List.eq_nil_of_length_eq_zero hl0]; exact hullF_nil
      rw [hl0] at HSM ⊢
      clear hok hOK
      go_enter Try.func17, Try.ntmps17
      go_wp2_with fail
      refine HSM.out.mono ?_
      rintro e w1 ⟨rfl, hb⟩
      have HF := Lib.hid (HNIL.out w1 HE.out hb)
      clear hb
      go_wp2
      go_ret
      exact HF.out
    · obtain ⟨H, hH⟩ := wound_of (l := l) (by omega)
      have HH := Lib.hid hH
      have HHU := Lib.hid (hH.hull hok)
      have hHl := hH.le
      have hH0 := hH.pos
      have EQ := eq_pair
      obtain ⟨n, hnn⟩ : ∃ n, l.length = n := ⟨_, rfl⟩
      have HN := Lib.hid hnn
      rw [hnn] at hn hn2 HSM hl0 hHl ⊢
      have hn0 : 0 < n := by omega
      have q0 : ((n : Int) == 0) = false := by simp; omega
      clear hok hOK hnn hH hl0
      go_enter Try.func17, Try.ntmps17
      go_wp2_with fail
      refine HSM.out.mono ?_
      rintro e w1 ⟨rfl, hb1⟩
      have HB1 := Lib.hid hb1
      clear hb1 HSM
      obtain ⟨b, off, rfl, hb, hc⟩ := (HW.out.below HB1.out) (by rw [HN.out]; exact hn0)
      obtain ⟨c0, c1⟩ := hc 0 (by rw [HN.out]; exact hn0)
      rw [Nat.zero_mul, Nat.add_zero] at c0 c1
      have HCL : Hid (∀ wx, Below w.heap.size w wx → b < wx.heap.size ∧ ∀ k, k < n → wx.cell? ⟨b, off + k * 2, none⟩ = some (.int .i64 (pg l k).1) ∧ wx.cell? ⟨b, off + k * 2 + 1, none⟩ = some (.int .i64 (pg l k).2)) := fun wx hx => by
        obtain ⟨b', off', e, hb', hc'⟩ := (HW.out.below hx) (by rw [HN.out]; exact hn0)
        cases e
        exact ⟨hb', fun k hk => hc' k (by rw [HN.out]; exact hk)⟩
      have HL0 : Hid (Least l 0 (pg l 0)) := ⟨pg_mem (by rw [HN.out]; exact hn0), fun j hj => by omega⟩
      have HPF0 := Lib.hid (pb_new w1 (pg l 0)).1
      have HBF0 : Hid (Below w.heap.size w (w1.alloc (.cells #[.int .i64 (pg l 0).1, .int .i64 (pg l 0).2] 26))) := HB1.out.trans ((pb_new w1 (pg l 0)).2.mono HB1.out.size)
      have HFB : Hid (w.heap.size ≤ w1.heap.size) := HB1.out.size
      generalize pg l 0 = f0 at *
      clear hc
      go_upto_region 4 with (fail)
      generalize w1.alloc (.cells #[.int .i64 f0.1, .int .i64 f0.2] 26) = wF at *
      obtain ⟨fb, hfb⟩ : ∃ fb, w1.heap.size = fb := ⟨_, rfl⟩
      rw [hfb] at HPF0 HFB ⊢
      clear hfb c0 c1 hb
      go_wp2
      go_loopw [4] (fun i wr => ∃ (k : Nat) (f : Pt), k ≤ n ∧ i = .int .i64 k ∧ Hid (Least l k f ∧ Pb wr fb f ∧ Below w.heap.size w wr)) (fun i _ => n - (intOf i).toNat)
      case atStart => exact ⟨0, f0, Nat.zero_le _, rfl, HL0.out, HPF0.out, HBF0.out⟩
      case round =>
        obtain ⟨k, f, hk, rfl, HR⟩ := hrel
        by_cases hlt : k < n
        · have HSTEP := Lib.hid (HR.out.1.step (by rw [HN.out]; exact hlt))
          have HXC : Hid (∀ wx, Below wr.heap.size wr wx → (wx.cell? ⟨b, off + k * 2, none⟩ = some (.int .i64 (pg l k).1) ∧ wx.cell? ⟨b, off + k * 2 + 1, none⟩ = some (.int .i64 (pg l k).2) ∧ b < wx.heap.size) ∧ Pb wx fb f ∧ Below w.heap.size w wx) := fun wx hx => by
            have h1 := HR.out.2.2.trans (hx.mono HR.out.2.2.size)
            obtain ⟨h2, h3⟩ := HCL.out wx h1
            exact ⟨⟨(h3 k hlt).1, (h3 k hlt).2, h2⟩, HR.out.2.1.below hx, h1⟩
          have HLE := Lib.hid (rless_any (pg l k) f)
          generalize pg l k = x at *
          obtain ⟨r, hr⟩ : ∃ r, ltB x f = r := ⟨_, rfl⟩
          rw [hr] at HLE HSTEP
          clear hr HR
          go_upto_region 7 with (fail)
          refine wp_region_inv (fun w w' => Below w.heap.size w w') (fun qi_ qv_ _ => qv_ = ([.slice (some ⟨b, off, none⟩) n c, .int .i64 (k : Int), .pointer (some ⟨b, off + k * 2, none⟩), .agg #[.int .i64 x.1, .int .i64 x.2], .agg #[.int .i64 f.1, .int .i64 f.2], .bool r] : List Value).getD qi_ undef) (by kernel_rfl) (by kernel_rfl) (fun _ => Below.refl _ _) (fun _ _ _ h1 h2 => below_later h1 h1.size h2) (fun _ _ _ _ _ _ h => h) ?_
          refine inv_cons (fun wx hg hd => ?_) (fun v0 => ?_)
          · have hx := ((Below.refl wr.heap.size wr).drew).trans hg
            clear hd hg
            go_wp2
            exact ⟨_, rfl, Below.refl _ _, rfl⟩
          (try simp only [List.nil_append, Act.put, List.setIfInBounds_toArray, List.set_cons_zero, List.set_cons_succ])
          refine inv_cons (fun wx hg hd => ?_) (fun v1 => ?_)
          · have hx := ((Below.refl wr.heap.size wr).drew).trans hg
            clear hd hg
            go_wp2
            exact ⟨_, rfl, Below.refl _ _, rfl⟩
          (try simp only [List.cons_append, List.nil_append, Act.put, List.setIfInBounds_toArray, List.set_cons_zero, List.set_cons_succ])
          refine inv_cons (fun wx hg hd => ?_) (fun v2 => ?_)
          · have hx := ((Below.refl wr.heap.size wr).drew).trans hg
            (try (have ee : v0 = (.slice (some ⟨b, off, none⟩) n c : Value) := hd 0 (by simp) (by decide); subst ee))
            (try (have ee : v1 = (.int .i64 (k : Int) : Value) := hd 1 (by simp) (by decide); subst ee))
            clear hd hg
            go_wp2
            exact ⟨_, rfl, Below.refl _ _, rfl⟩
          (try simp only [List.cons_append, List.nil_append, Act.put, List.setIfInBounds_toArray, List.set_cons_zero, List.set_cons_succ])
          refine inv_cons (fun wx hg hd => ?_) (fun v3 => ?_)
          · have hx := ((Below.refl wr.heap.size wr).drew).trans hg
            (try (have ee : v2 = (.pointer (some ⟨b, off + k * 2, none⟩) : Value) := hd 2 (by simp) (by decide); subst ee))
            clear hd hg
            obtain ⟨⟨k1, k2, k3⟩, _, _⟩ := HXC.out _ hx
            go_wp2
            exact ⟨_, rfl, Below.refl _ _, rfl⟩
          (try simp only [List.cons_append, List.nil_append, Act.put, List.setIfInBounds_toArray, List.set_cons_zero, List.set_cons_succ])
          refine inv_cons (fun wx hg hd => ?_) (fun v4 => ?_)
          · have hx := ((Below.refl wr.heap.size wr).drew).trans hg
            clear hd hg
            obtain ⟨k1, k2, k3, k4, k5⟩ := (HXC.out _ hx).2.1.cells
            go_wp2
            exact ⟨_, rfl, Below.refl _ _, rfl⟩
          (try simp only [List.cons_append, List.nil_append, Act.put, List.setIfInBounds_toArray, List.set_cons_zero, List.set_cons_succ])
          refine inv_cons (fun wx hg hd => ?_) (fun v5 => ?_)
          · have hx := ((Below.refl wr.heap.size wr).drew).trans hg
            (try (have ee : v3 = (.agg #[.int .i64 x.1, .int .i64 x.2] : Value) := hd 3 (by simp) (by decide); subst ee))
            (try (have ee : v4 = (.agg #[.int .i64 f.1, .int .i64 f.2] : Value) := hd 4 (by simp) (by decide); subst ee))
            clear hd hg
            go_wp2_with fail
            refine (HLE.out _).mono ?_
            rintro e w' ⟨rfl, hb⟩
            go_wp2
            exact ⟨_, rfl, hb, rfl⟩
          (try simp only [List.cons_append, List.nil_append, Act.put, List.setIfInBounds_toArray, List.set_cons_zero, List.set_cons_succ])
          refine inv_done (fun wx hg hd => ?_)
          have hx := ((Below.refl wr.heap.size wr).drew).trans hg
          (have ee : v0 = (.slice (some ⟨b, off, none⟩) n c : Value) := hd 0 (by simp); subst ee)
          (have ee : v1 = (.int .i64 (k : Int) : Value) := hd 1 (by simp); subst ee)
          (have ee : v2 = (.pointer (some ⟨b, off + k * 2, none⟩) : Value) := hd 2 (by simp); subst ee)
          (have ee : v3 = (.agg #[.int .i64 x.1, .int .i64 x.2] : Value) := hd 3 (by simp); subst ee)
          (have ee : v4 = (.agg #[.int .i64 f.1, .int .i64 f.2] : Value) := hd 4 (by simp); subst ee)
          (have ee : v5 = (.bool r : Value) := hd 5 (by simp); subst ee)
          clear hd hg
          (try go_simp)
          obtain ⟨⟨k1, k2, k3⟩, hpf, hbx⟩ := HXC.out _ hx
          cases r
          · have HN2 : Hid (Least l (k + 1) f ∧ Pb wx fb f ∧ Below w.heap.size w wx) := ⟨HSTEP.out, hpf, hbx⟩
            clear hpf hbx hx HXC HSTEP
            go_wp2
            go_roundw
            case rel => exact ⟨k + 1, f, by omega, by go_num, HN2.out⟩
            case measure => simp [intOf]; omega
          · obtain ⟨d0, d1, d2, d3, d4⟩ := hpf.cells
            have HN2 : Hid (Least l (k + 1) x ∧ Pb ((wx.setCell ⟨fb, 0, none⟩ (.int .i64 x.1)).setCell ⟨fb, 1, none⟩ (.int .i64 x.2)) fb x ∧ Below w.heap.size w ((wx.setCell ⟨fb, 0, none⟩ (.int .i64 x.1)).setCell ⟨fb, 1, none⟩ (.int .i64 x.2))) := ⟨HSTEP.out, (hpf.put x).1, hbx.trans ((hpf.put x).2.below hbx.size fun q hq e => by have := HFB.out; omega)⟩
            clear hpf hbx hx HXC HSTEP
            go_wp2
            go_roundw
            case rel => exact ⟨k + 1, x, by omega, by go_num, HN2.out⟩
            case measure => simp [intOf]; omega
        · obtain rfl : k = n := by omega
          have hfe : f = pg H 0 := HH.out.least HR.out.1.1 fun p hp => by
            obtain ⟨j, hj, rfl⟩ := mem_pg hp
            exact HR.out.1.2 j (by rw [HN.out] at hj; exact hj)
          rw [hfe] at HR
          clear hfe hlt hk
          obtain ⟨k1, k2, k3, k4, k5⟩ := HR.out.2.1.cells
          have HPF : Hid (Pb wr fb (pg H 0)) := HR.out.2.1
          have HBR := Lib.hid HR.out.2.2
          have HPN0 := Lib.hid (pb_new wr (pg H 0)).1
          have HBN0 := Lib.hid (pb_new wr (pg H 0)).2
          clear HR HL0 HPF0 HBF0
          obtain ⟨h0, hh0⟩ : ∃ h0, pg H 0 = h0 := ⟨_, rfl⟩
          rw [hh0] at HPF HPN0 HBN0 k1 k2
          have HE0 := Lib.hid hh0
          clear hh0
          go_upto_region 11 with (fail)
          generalize wr.alloc (.cells #[.int .i64 h0.1, .int .i64 h0.2] 26) = wN at *
          obtain ⟨nb, hnb⟩ : ∃ nb, wr.heap.size = nb := ⟨_, rfl⟩
          have HFN : Hid (fb < nb) := by show fb < nb; rw [← hnb]; exact HPF.out.lt
          have HPFN := Lib.hid (HPF.out.below HBN0.out)
          have HBWN : Hid (Below w.heap.size w wN) := HBR.out.trans (HBN0.out.mono HBR.out.size)
          rw [hnb] at HPN0 ⊢
          clear hnb k1 k2 k3 k4 k5 HPF HBR HBN0
          go_wp2
          have HNRH : Hid (∀ i, i < H.length → Near (pg H i)) := fun i hi => HNR.out _ (HH.out.mem i hi)
          go_loopw [5, 7] (fun o i wr => ∃ (m : Nat) (oo : Option Addr) (oc : Nat), m < H.length ∧ i = .int .i64 m ∧ o = .slice oo m oc ∧ wr.ownsRow w.heap.size 26 2 (.slice oo m oc) m (pV (H.take m)) ∧ Hid (Pb wr nb (pg H m) ∧ Pb wr fb h0 ∧ ∀ g o s, oo = some ⟨g, o, s⟩ → g ≠ nb ∧ g ≠ fb) ∧ Below w.heap.size w wr) (fun _ i _ => H.length - (intOf i).toNat)
          case atStart => exact ⟨0, none, 0, hH0, rfl, rfl, World.ownsRow_nil _ _ _ _, ⟨by rw [HE0.out]; exact HPN0.out, HPFN.out, fun _ _ _ h => by (cases h)⟩, HBWN.out⟩
          case round =>
            obtain ⟨m, oo, oc, hm, rfl, rfl, hown, HP, hbw⟩ := hrel
            have hsz := hbw.size
            have HAL : Hid (pg H m ∈ l) := HH.out.mem m hm
            have HTK : Hid (pV (H.take (m + 1)) = pV (H.take m) ++ [.int .i64 (pg H m).1, .int .i64 (pg H m).2]) := by show _ = _; rw [take_succ_pg hm, pV_append]; rfl
            have HSC : Hid (scanTo l (pg H m) k = nx H m) := by show _ = _; rw [← HN.out]; exact HH.out.scan hm
            have HA : Hid (pg H m = pg H m) := rfl
            obtain ⟨a, ha⟩ : ∃ a, pg H m = a := ⟨_, rfl⟩
            have HPA : Hid (pg H m = a) := ha
            rw [ha] at HP HAL HTK HSC
            obtain ⟨k1, k2, k3, k4, k5⟩ := HP.out.1.cells
            clear ha HA
            go_upto_region 15 with (at_builtin; refine wpList_append_own_at _ rfl (.tmp 46) (.tmp 48) 23 rfl w.heap.size 26 i1 (.agg #[.int .i64 0, .int .i64 0]) 2 16 Try.underlying23 hj hy0 hy1 hy2 rfl (by decide) _ _ _ rfl (hown.alloc _) ⟨wr.heap.size, 0, none⟩ 1 1 [.int .i64 a.1, .int .i64 a.2] rfl rfl (cells_new _ _ _ _ rfl) (by simp [Value.oneCell']) (by unfold maxLen; omega) (by omega) (by simp; omega) ?_; intro v' w3 ho3 hgr _ hat)
            obtain ⟨o3, c3, rfl, hc3, _⟩ := own_form ho3
            have hb3 := below_append (hbw.alloc hsz (.cells #[.int .i64 a.1, .int .i64 a.2] 26)) (hown.alloc (.cells #[.int .i64 a.1, .int .i64 a.2] 26)) (by simp; omega) hgr
            have hal : Below wr.heap.size wr (wr.alloc (.cells #[.int .i64 a.1, .int .i64 a.2] 26)) := (Below.refl _ _).alloc (Nat.le_refl _) _
            have hpn3 : Pb w3 nb a := (HP.out.1.below hal).grown hgr fun g o s e => (HP.out.2.2 g o s e).1
            have hpf3 : Pb w3 fb h0 := (HP.out.2.1.below hal).grown hgr fun g o s e => (HP.out.2.2 g o s e).2
            have hat2 : (Value.slice o3 (m + 1) c3).ownBlock = (Value.slice oo m oc).ownBlock ∨ (Value.slice o3 (m + 1) c3).ownBlock = some (wr.alloc (.cells #[.int .i64 a.1, .int .i64 a.2] 26)).heap.size := hat
            clear hat
            have hap3 : ∀ g o s, o3 = some ⟨g, o, s⟩ → g ≠ nb ∧ g ≠ fb := fun g o s e => by
              subst e
              rcases hat2 with h1 | h1
              · cases oo with
                | none => cases h1
                | some q =>
                  obtain ⟨g', o', s'⟩ := q
                  have h2 : g = g' := by simpa [Value.ownBlock] using h1
                  rw [h2]; exact HP.out.2.2 g' o' s' rfl
              · simp only [Value.ownBlock, Option.some.injEq] at h1
                have := HP.out.1.lt
                have := HP.out.2.1.lt
                rw [World.size_alloc] at h1
                omega
            rw [← HTK.out] at ho3
            obtain ⟨j1, j2, j3, j4, j5⟩ := hpn3.cells
            have hpx := pb_new w3 a
            have HPX := Lib.hid hpx.1
            have HBX := Lib.hid hpx.2
            have HPN3 := Lib.hid (hpn3.below hpx.2)
            have HPF3 := Lib.hid (hpf3.below hpx.2)
            have HO3 := Lib.hid (own_later ho3 hpx.2)
            have HB3 : Hid (Below w.heap.size w (w3.alloc (.cells #[.int .i64 a.1, .int .i64 a.2] 26))) := hb3.trans (hpx.2.mono hb3.size)
            have HAP3 := Lib.hid hap3
            have HNX : Hid (nb ≠ w3.heap.size ∧ fb ≠ w3.heap.size ∧ (∀ g o s, o3 = some ⟨g, o, s⟩ → g ≠ w3.heap.size) ∧ w.heap.size ≤ w3.heap.size) := ⟨Nat.ne_of_lt hpn3.lt, Nat.ne_of_lt hpf3.lt, fun g o s e => Nat.ne_of_lt (own_lt ho3 g o s e).2, hb3.size⟩
            clear hat2 hgr hb3 hal hpn3 hpf3 hap3 hpx ho3 hown hbw hsz k1 k2 k3 k4 k5 HP HTK
            go_upto_region 16 with (fail)
            generalize w3.alloc (.cells #[.int .i64 a.1, .int .i64 a.2] 26) = wI at *
            obtain ⟨xb, hxb⟩ : ∃ xb, w3.heap.size = xb := ⟨_, rfl⟩
            rw [hxb] at HPX HNX ⊢
            have HXI : Hid (xb < wI.heap.size) := HPX.out.lt
            clear hxb j1 j2 j3 j4 j5 HBX
            go_wp2
            go_loopw [9] (fun i wx => ∃ j : Nat, j ≤ k ∧ i = .int .i64 j ∧ Hid (Pb wx xb (scanTo l a j) ∧ Turn (fun q => q = xb) wI wx)) (fun i _ => k - (intOf i).toNat)
            case atStart => exact ⟨0, Nat.zero_le _, rfl, HPX.out, Turn.refl _ _⟩
            case round =>
              obtain ⟨j, hj', rfl, HY⟩ := hrel
              have HBY : Hid (Below w.heap.size w wr) := HB3.out.trans (HY.out.2.below HB3.out.size fun q hq e => by have := HNX.out.2.2.2; omega)
              have HPNY : Hid (Pb wr nb a) := HPN3.out.turn HY.out.2 HNX.out.1
              have HPFY : Hid (Pb wr fb h0) := HPF3.out.turn HY.out.2 HNX.out.2.1
              by_cases hjk : j < k
              · obtain ⟨hbb, hcc⟩ := HCL.out wr HBY.out
                obtain ⟨c0, c1⟩ := hcc j hjk
                have HSS := Lib.hid (scan_succ l a j)
                have HPL : Hid (pg l j ∈ l) := pg_mem (by rw [HN.out]; exact hjk)
                have HXL : Hid (scanTo l a j = a ∨ scanTo l a j ∈ l) := scan_in l a j (by rw [HN.out]; omega)
                generalize scanTo l a j = x at *
                generalize pg l j = p at *
                have hpq := pb_new wr p
                have HXC : Hid (∀ wx, Below (wr.alloc (.cells #[.int .i64 p.1, .int .i64 p.2] 26)).heap.size (wr.alloc (.cells #[.int .i64 p.1, .int .i64 p.2] 26)) wx → Pb wx wr.heap.size p ∧ Pb wx nb a ∧ Pb wx xb x ∧ Turn (fun q => q = xb) wI wx) := fun wx hx => by
                  have h1 : Below wr.heap.size wr wx := hpq.2.trans (hx.mono hpq.2.size)
                  exact ⟨hpq.1.below hx, HPNY.out.below h1, HY.out.1.below h1, HY.out.2.trans (Turn.of_below h1) fun _ _ h => h⟩
                clear hcc hpq HY HBY
                go_upto_region 20 with (fail)
                generalize hwq : wr.alloc (.cells #[.int .i64 p.1, .int .i64 p.2] 26) = wq at *
                obtain ⟨pp, hpp⟩ : ∃ pp, wr.heap.size = pp := ⟨_, rfl⟩
                rw [hpp] at HXC ⊢
                clear hwq hpp c0 c1 hbb
                have hx0 := HXC.out wq (Below.refl _ _)
                obtain ⟨u1, u2, u3, u4, u5⟩ := hx0.1.cells
                obtain ⟨v1, v2, v3, v4, v5⟩ := hx0.2.1.cells
                obtain ⟨y1, y2, y3, y4, y5⟩ := hx0.2.2.1.cells
                have HKEEP : Hid (∀ wx, Below wq.heap.size wq wx → scanStep a x p = x → Pb wx xb (scanTo l a (j + 1)) ∧ Turn (fun q => q = xb) wI wx) := fun wx hx e => by
                  rw [HSS.out, e]; exact ⟨(HXC.out wx hx).2.2.1, (HXC.out wx hx).2.2.2⟩
                have HPUT : Hid (∀ wx, Below wq.heap.size wq wx → scanStep a x p = p → Pb ((wx.setCell ⟨xb, 0, none⟩ (.int .i64 p.1)).setCell ⟨xb, 1, none⟩ (.int .i64 p.2)) xb (scanTo l a (j + 1)) ∧ Turn (fun q => q = xb) wI ((wx.setCell ⟨xb, 0, none⟩ (.int .i64 p.1)).setCell ⟨xb, 1, none⟩ (.int .i64 p.2))) := fun wx hx e => by
                  have h1 := (HXC.out wx hx).2.2.1.put p
                  rw [HSS.out, e]; exact ⟨h1.1, (HXC.out wx hx).2.2.2.trans h1.2 fun _ _ h => h⟩
                clear hx0 HSS
                by_cases hpa : p = a
                · have HN2 := Lib.hid (HKEEP.out wq (Below.refl _ _) (by unfold scanStep; rw [if_pos hpa]))
                  have q1 : (p.1 == a.1 && p.2 == a.2) = true := by rw [hpa]; simp
                  clear hpa HKEEP HPUT HXC
                  go_wp2
                  go_roundw
                  case rel => exact ⟨j + 1, by omega, by go_num, HN2.out⟩
                  case measure => simp [intOf]; omega
                · have q1 : (p.1 == a.1 && p.2 == a.2) = false := by
                    rw [Bool.eq_false_iff]; intro h; simp at h; exact hpa (Prod.ext h.1 h.2)
                  by_cases hxa : x = a
                  · have HN2 := Lib.hid (HPUT.out wq (Below.refl _ _) (by unfold scanStep; rw [if_neg hpa, if_pos hxa]))
                    have q2 : (x.1 == a.1 && x.2 == a.2) = true := by rw [hxa]; simp
                    clear hpa hxa HKEEP HPUT HXC
                    go_wp2
                    go_roundw
                    case rel => exact ⟨j + 1, by omega, by go_num, HN2.out⟩
                    case measure => simp [intOf]; omega
                  · have q2 : (x.1 == a.1 && x.2 == a.2) = false := by
                      rw [Bool.eq_false_iff]; intro h; simp at h; exact hxa (Prod.ext h.1 h.2)
                    have HNa := Lib.hid (HNR.out a HAL.out)
                    have HNx := Lib.hid (HNR.out x (HXL.out.resolve_left hxa))
                    have HNp := Lib.hid (HNR.out p HPL.out)
                    have HTU := Lib.hid (rturn_any a x p HNa.out HNx.out HNp.out)
                    have HFU := Lib.hid (rfurther_any a x p HNa.out HNx.out HNp.out)
                    have HSTEP : Hid (scanStep a x p = if turn a x p < 0 ∨ (turn a x p = 0 ∧ mag a x < mag a p) then p else x) := by show _ = _; unfold scanStep; rw [if_neg hpa, if_neg hxa]
                    obtain ⟨z, hz⟩ : ∃ z, turn a x p = z := ⟨_, rfl⟩
                    rw [hz] at HTU HSTEP
                    clear hz hpa hxa
                    go_wp2_with fail
                    refine (HTU.out _).mono ?_
                    rintro e w5 ⟨rfl, hb5⟩
                    obtain ⟨n1, n2, n3, n4⟩ := HXC.out w5 hb5
                    obtain ⟨u1, u2, u3, u4, u5⟩ := n1.cells
                    obtain ⟨v1, v2, v3, v4, v5⟩ := n2.cells
                    obtain ⟨y1, y2, y3, y4, y5⟩ := n3.cells
                    have HB5 := Lib.hid hb5
                    clear hb5 n1 n2 n3 n4 HTU
                    rcases Int.lt_trichotomy z 0 with hz | hz | hz
                    · have hs : sgn3 z = -1 := by unfold sgn3; rw [if_pos hz]
                      have HN2 := Lib.hid (HPUT.out w5 HB5.out (by rw [HSTEP.out, if_pos (.inl hz)]))
                      rw [hs]
                      clear hs hz HKEEP HPUT HXC HSTEP
                      go_wp2
                      go_roundw
                      case rel => exact ⟨j + 1, by omega, by go_num, HN2.out⟩
                      case measure => simp [intOf]; omega
                    · have hs : sgn3 z = 0 := by unfold sgn3; rw [hz]; rfl
                      rw [hs]
                      obtain ⟨r, hr⟩ : ∃ r, decide (mag a x < mag a p) = r := ⟨_, rfl⟩
                      rw [hr] at HFU
                      have HST2 : Hid (scanStep a x p = if r = true then p else x) := by
                        show _ = _
                        rw [HSTEP.out, ← hr]
                        by_cases h : mag a x < mag a p
                        · rw [if_pos (.inr ⟨hz, h⟩), if_pos (decide_eq_true h)]
                        · rw [if_neg (fun h2 => by rcases h2 with h2 | h2; exact absurd h2 (by omega); exact h h2.2), if_neg (by simpa using h)]
                      clear hs hz hr HSTEP
                      go_wp2_with fail
                      refine (HFU.out _).mono ?_
                      rintro e w6 ⟨rfl, hb6⟩
                      have HB6 : Hid (Below wq.heap.size wq w6) := HB5.out.trans (hb6.mono HB5.out.size)
                      obtain ⟨n1, n2, n3, n4⟩ := HXC.out w6 HB6.out
                      obtain ⟨u1, u2, u3, u4, u5⟩ := n1.cells
                      obtain ⟨v1, v2, v3, v4, v5⟩ := n2.cells
                      obtain ⟨y1, y2, y3, y4, y5⟩ := n3.cells
                      clear hb6 n1 n2 n3 n4 HFU
                      cases r
                      · have HN2 := Lib.hid (HKEEP.out w6 HB6.out (by rw [HST2.out]; rfl))
                        clear HKEEP HPUT HXC HST2
                        go_wp2
                        go_roundw
                        case rel => exact ⟨j + 1, by omega, by go_num, HN2.out⟩
                        case measure => simp [intOf]; omega
                      · have HN2 := Lib.hid (HPUT.out w6 HB6.out (by rw [HST2.out]; rfl))
                        clear HKEEP HPUT HXC HST2
                        go_wp2
                        go_roundw
                        case rel => exact ⟨j + 1, by omega, by go_num, HN2.out⟩
                        case measure => simp [intOf]; omega
                    · have hs : sgn3 z = 1 := by unfold sgn3; rw [if_neg (by omega), if_pos hz]
                      have HN2 := Lib.hid (HKEEP.out w5 HB5.out (by rw [HSTEP.out, if_neg (fun h => by omega)]))
                      rw [hs]
                      clear hs hz HKEEP HPUT HXC HSTEP
                      go_wp2
                      go_roundw
                      case rel => exact ⟨j + 1, by omega, by go_num, HN2.out⟩
                      case measure => simp [intOf]; omega
              · obtain rfl : j = k := by omega
                rw [HSC.out] at HY
                have hye : nx H m = h0 ↔ m + 1 = H.length := by
                  constructor
                  · intro e
                    rcases Nat.lt_or_ge (m + 1) H.length with h | h
                    · exact absurd (e.trans HE0.out.symm) (HH.out.on h).1
                    · omega
                  · intro e; rw [nx_last e]; exact HE0.out
                have hya : m + 1 < H.length → nx H m ≠ a ∧ nx H m = pg H (m + 1) := fun h => ⟨by rw [← HPA.out]; exact (HH.out.on h).2, nx_next h⟩
                obtain ⟨y, hy⟩ : ∃ y, nx H m = y := ⟨_, rfl⟩
                rw [hy] at HY hye hya
                obtain ⟨y1, y2, y3, y4, y5⟩ := HY.out.1.cells
                obtain ⟨u1, u2, u3, u4, u5⟩ := HPFY.out.cells
                obtain ⟨v1, v2, v3, v4, v5⟩ := HPNY.out.cells
                have HOY := Lib.hid (own_turn HO3.out HY.out.2 fun g o s e h => HNX.out.2.2.1 g o s e h)
                clear hjk hj' hy
                by_cases hlast : m + 1 = H.length
                · have q1 : (y.1 == h0.1 && y.2 == h0.2) = true := by rw [hye.2 hlast]; simp
                  have hHT : H.take (m + 1) = H := List.take_of_length_le (by omega)
                  by_cases h3 : m + 1 < 3
                  · have HF := Lib.hid (HNIL.out wr (by rw [HHU.out, if_neg (by omega)]) HBY.out)
                    have q3 : (m : Int) + 1 < 3 := by omega
                    clear hye hya hlast hHT HHU HNIL
                    go_wp2
                    go_ret
                    exact HF.out
                  · have HF : Hid (OfTold w l (.returned (.slice o3 (m + 1) c3)) wr) := by
                      show OfTold _ _ _ _
                      unfold OfTold
                      rw [HHU.out, if_pos (by omega)]
                      refine ⟨o3, c3, by rw [← hlast], ?_, by omega, fun g o s e => (own_lt HOY.out g o s e).1, HBY.out⟩
                      have := HOY.out
                      rw [hHT] at this
                      exact pAt_own hlast this
                    have q3 : 3 ≤ (m : Int) + 1 := by omega
                    clear hye hya hlast hHT HHU HNIL
                    go_wp2
                    go_ret
                    exact HF.out
                · have hlt2 : m + 1 < H.length := by omega
                  have q1 : (y.1 == h0.1 && y.2 == h0.2) = false := by
                    rw [Bool.eq_false_iff]; intro h; simp at h; exact hlast (hye.1 (Prod.ext h.1 h.2))
                  have q2 : (y.1 == a.1 && y.2 == a.2) = false := by
                    rw [Bool.eq_false_iff]; intro h; simp at h; exact (hya hlt2).1 (Prod.ext h.1 h.2)
                  have hpp := HPNY.out.put y
                  have HNF : Hid (nb ≠ fb) := by have := HFN.out; show nb ≠ fb; omega
                  have HFIN : Hid (((wr.setCell ⟨nb, 0, none⟩ (.int .i64 y.1)).setCell ⟨nb, 1, none⟩ (.int .i64 y.2)).ownsRow w.heap.size 26 2 (.slice o3 (m + 1) c3) (m + 1) (pV (H.take (m + 1))) ∧ (Pb ((wr.setCell ⟨nb, 0, none⟩ (.int .i64 y.1)).setCell ⟨nb, 1, none⟩ (.int .i64 y.2)) nb (pg H (m + 1)) ∧ Pb ((wr.setCell ⟨nb, 0, none⟩ (.int .i64 y.1)).setCell ⟨nb, 1, none⟩ (.int .i64 y.2)) fb h0) ∧ Below w.heap.size w ((wr.setCell ⟨nb, 0, none⟩ (.int .i64 y.1)).setCell ⟨nb, 1, none⟩ (.int .i64 y.2))) := by
                    refine ⟨own_turn HOY.out hpp.2 fun g o s e h => (HAP3.out g o s e).1 h, ⟨?_, HPFY.out.turn hpp.2 HNF.out.symm⟩, HBY.out.trans (hpp.2.below HBY.out.size fun q hq e => ?_)⟩
                    · rw [← (hya hlt2).2]; exact hpp.1
                    · have := HFN.out
                      have := HFB.out
                      omega
                  clear hye hya hlast hpp HOY HNIL HHU
                  go_wp2
                  go_roundw
                  case rel => exact ⟨m + 1, o3, c3, hlt2, by go_num, rfl, HFIN.out.1, ⟨HFIN.out.2.1.1, HFIN.out.2.1.2, HAP3.out⟩, HFIN.out.2.2⟩
                  case measure => simp [intOf]; omega
end Go.Proofs.Ytcoffankmmjehaa
