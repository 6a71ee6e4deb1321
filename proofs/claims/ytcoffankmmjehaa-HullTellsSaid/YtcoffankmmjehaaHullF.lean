/- Contracts of package hull: chain. -/
import Derived.Test.YtcoffankmmjehaaHullE
import Derived.Deep.CutRange
namespace Go.Proofs.Ytcoffankmmjehaa
open Go.RowKit Go.Lib Hull

theorem pV_one (p : Pt) : pV [p] = [.int .i64 p.1, .int .i64 p.2] := rfl
theorem own_slice {w : World} {base n cap : Nat} {t : TypeId} {ao : Option Addr} {l : List Pt} (h : w.ownsRow base t 2 (.slice ao n cap) n (pV l)) (h0 : 0 < n) : ∃ g, ao = some ⟨g, 0, none⟩ := by
  obtain ⟨ao', c', e, _, hh⟩ := own_form h
  cases e
  obtain ⟨g, rfl, _⟩ := hh h0
  exact ⟨g, rfl⟩
/-- Three points of a row turn; told beside what lies below. -/
theorem turn_at (a b c : Pt) (z : Int) (hz : turn a b c = z) (ha : Near a) (hb : Near b) (hc : Near c) : ∀ w, Calls Try.prog 27 #[.agg #[.int .i64 a.1, .int .i64 a.2], .agg #[.int .i64 b.1, .int .i64 b.2], .agg #[.int .i64 c.1, .int .i64 c.2]] w fun e w' => e = .returned (.int .i64 z) ∧ Below w.heap.size w w' := fun w => by
  rw [← hz]; exact turn_any a b c ha hb hc w
theorem own_nil' {w : World} {base : Nat} {t : TypeId} (l : List Pt) (h : l.length = 0) : w.ownsRow base t 2 (.slice none l.length 0) l.length (pV l) := by
  obtain rfl : l = [] := List.eq_nil_of_length_eq_zero h
  exact World.ownsRow_nil _ _ _ _
set_option maxHeartbeats 8000000 in
set_option maxRecDepth 1000000 in
theorem chain_any (ao : Option Addr) (c : Nat) (l : List Pt) (w : World) (h : PAt w ao l) (hn1 : 1 ≤ l.length) (hn : l.length ≤ 1000000) (hnear : ∀ p ∈ l, Near p) :
    Calls Try.prog 25 #[.slice ao l.length c] w (Chained w l) := by
  obtain ⟨i0, hi, hz0, hz1, hz2⟩ := info_parts info_pt
  have HW := Lib.hid h
  have HNR := Lib.hid hnear
  have HF : Hid (chainF l = chainTo l l.length) := rfl
  obtain ⟨n, hnn⟩ : ∃ n, l.length = n := ⟨_, rfl⟩
  have HN := Lib.hid hnn
  rw [hnn] at hn hn1 HF ⊢
  clear h hnear hnn
  go_enter Try.func25, Try.ntmps25
  go_wp2
  go_loopw [3, 8] (fun o i wr => ∃ (k : Nat) (oo : Option Addr) (oc : Nat), k ≤ n ∧ i = .int .i64 k ∧ o = .slice oo (chainTo l k).length oc ∧ Hid (wr.ownsRow w.heap.size 26 2 (.slice oo (chainTo l k).length oc) (chainTo l k).length (pV (chainTo l k)) ∧ Below w.heap.size w wr)) (fun _ i _ => n - (intOf i).toNat)
  case atStart => exact ⟨0, none, 0, Nat.zero_le _, rfl, rfl, own_nil' _ rfl, Below.refl _ _⟩
  case round =>
    obtain ⟨k, oo, oc, hk, rfl, rfl, HR⟩ := hrel
    by_cases hlt : k < n
    · obtain ⟨b, off, rfl, hb, hc⟩ := (HW.out.below HR.out.2) (by rw [HN.out]; omega)
      obtain ⟨c0, c1⟩ := hc k (by rw [HN.out]; exact hlt)
      have HS : Hid (chainTo l (k + 1) = (chainTo l k).take (popN (chainTo l k) (pg l k) (chainTo l k).length) ++ [pg l k]) := chainTo_succ (by rw [HN.out]; exact hlt)
      have HLN : Hid (∀ p ∈ chainTo l k, Near p) := fun p hp => HNR.out p (chainTo_mem l k (by rw [HN.out]; exact hk) p hp)
      have hcn : Near (pg l k) := near_of HNR.out (by rw [HN.out]; exact hlt)
      have hLk : (chainTo l k).length ≤ k := chainTo_le l k (by rw [HN.out]; exact hk)
      have HP : Hid (1 ≤ (chainTo l k).length → 1 ≤ popN (chainTo l k) (pg l k) (chainTo l k).length) := popN_pos _ _ _
      have HPL : Hid (popN (chainTo l k) (pg l k) (chainTo l k).length ≤ (chainTo l k).length) := popN_le _ _ _
      have HCN := Lib.hid hcn
      generalize chainTo l k = L at HR HS HLN hLk HP HPL ⊢
      generalize pg l k = x at c0 c1 HS HCN HP HPL
      obtain ⟨m, hm⟩ : ∃ m, L.length = m := ⟨_, rfl⟩
      have HM := Lib.hid hm
      rw [hm] at HR hLk HP HPL HS ⊢
      obtain ⟨r, hr⟩ : ∃ r, popN L x m = r := ⟨_, rfl⟩
      have HPR := Lib.hid hr
      rw [hr] at HS HP HPL
      clear hc hcn hm hr
      obtain ⟨wo, hwo⟩ : ∃ wo : World, wo = wr := ⟨_, rfl⟩
      subst hwo
      have HX : Hid ((wo.alloc (.cells #[.int .i64 x.1, .int .i64 x.2] 41)).heap[wo.heap.size]? = some (.cells #[.int .i64 x.1, .int .i64 x.2] 41 (0, 0))) := heap_new _ _ _ rfl
      have hba : Below wo.heap.size wo (wo.alloc (.cells #[.int .i64 x.1, .int .i64 x.2] 41)) := (Below.refl _ _).alloc (Nat.le_refl _) _
      have HBA : Hid (Below w.heap.size w (wo.alloc (.cells #[.int .i64 x.1, .int .i64 x.2] 41))) := HR.out.2.trans (hba.mono HR.out.2.size)
      have HOA : Hid ((wo.alloc (.cells #[.int .i64 x.1, .int .i64 x.2] 41)).ownsRow w.heap.size 26 2 (.slice oo m oc) m (pV L)) := own_later HR.out.1 hba
      have HZ0 : Hid ((wo.alloc (.cells #[.int .i64 x.1, .int .i64 x.2] 41)).heap.size = wo.heap.size + 1) := World.size_alloc _ _
      have HBO := Lib.hid HR.out.2
      clear hba HR
      go_wp2
      generalize hwA : wo.alloc (.cells #[.int .i64 x.1, .int .i64 x.2] 41) = wA at *
      clear hwA
      obtain ⟨pb, hpb⟩ : ∃ pb, wo.heap.size = pb := ⟨_, rfl⟩
      rw [hpb] at HX HZ0 ⊢
      clear hpb
      go_loopg [3] m (fun q s3 wr => ∃ t : Nat, t ≤ m ∧ t ≤ q ∧ s3 = .slice oo t oc ∧ Hid (popN L x t = r) ∧ Hid (wr.ownsRow w.heap.size 26 2 (.slice oo t oc) t (pV (L.take t)) ∧ Below wA.heap.size wA wr))
      case atStart => exact ⟨m, Nat.le_refl _, Nat.le_refl _, rfl, HPR.out, by rw [show L.take m = L from List.take_of_length_le (by rw [HM.out]; exact Nat.le_refl _)]; exact HOA.out, Below.refl _ _⟩
      case round =>
        obtain ⟨t, htm, htq, rfl, HT, HR⟩ := hrel
        obtain ⟨cb, hcb⟩ : ∃ cb : Bool, decide (1 < t ∧ turn (pg L (t - 2)) (pg L (t - 1)) x ≤ 0) = cb := ⟨_, rfl⟩
        have HCB := Lib.hid hcb
        have HXC : Hid (∀ wx, Below wr.heap.size wr wx → wx.cell? ⟨pb, 0, none⟩ = some (.int .i64 x.1) ∧ wx.cell? ⟨pb, 1, none⟩ = some (.int .i64 x.2)) := fun wx hx => by
          have h1 : wx.heap[pb]? = some (.cells #[.int .i64 x.1, .int .i64 x.2] 41 (0, 0)) := by
            have h2 := (HR.out.2.trans (hx.mono HR.out.2.size)).block pb (by rw [HZ0.out]; omega)
            rw [h2]; exact HX.out
          exact ⟨cell_of_row _ _ 0 _ _ _ h1, cell_of_row _ _ 1 _ _ _ h1⟩
        clear hcb
        go_upto_region 5 with (fail)
        go_cut [31] from 12 to 31 (fun v wx => v = .bool cb ∧ Hid (Below wr.heap.size wr wx))
        case first =>
          by_cases ht1 : 1 < t
          · obtain ⟨s, rfl⟩ : ∃ s, t = s + 2 := ⟨t - 2, by omega⟩
            obtain ⟨g, rfl⟩ := own_slice HR.out.1 (by omega)
            have hcs : ∀ wx, Below wr.heap.size wr wx → (wx.cell? ⟨g, s * 2, none⟩ = some (.int .i64 (pg L s).1) ∧ wx.cell? ⟨g, s * 2 + 1, none⟩ = some (.int .i64 (pg L s).2)) ∧ (wx.cell? ⟨g, (s + 1) * 2, none⟩ = some (.int .i64 (pg L (s + 1)).1) ∧ wx.cell? ⟨g, (s + 1) * 2 + 1, none⟩ = some (.int .i64 (pg L (s + 1)).2)) := fun wx hx => by
              obtain ⟨_, _, hc⟩ := own_cells (own_later HR.out.1 hx)
              have hl : (L.take (s + 2)).length = s + 2 := by rw [List.length_take, HM.out]; omega
              have h1 := hc s (by rw [hl]; omega)
              have h2 := hc (s + 1) (by rw [hl]; omega)
              rw [show pg (L.take (s + 2)) s = pg L s from pg_take (by omega)] at h1
              rw [show pg (L.take (s + 2)) (s + 1) = pg L (s + 1) from pg_take (by omega)] at h2
              exact ⟨h1, h2⟩
            have HCS := Lib.hid hcs
            obtain ⟨z, hz⟩ : ∃ z, turn (pg L s) (pg L (s + 1)) x = z := ⟨_, rfl⟩
            have HTU := Lib.hid (turn_at (pg L s) (pg L (s + 1)) x z hz (near_of HLN.out (by rw [HM.out]; omega)) (near_of HLN.out (by rw [HM.out]; omega)) HCN.out)
            have HCZ : Hid (cb = decide (z ≤ 0)) := by
              show _ = _
              rw [← HCB.out, show s + 2 - 2 = s by omega, show s + 2 - 1 = s + 1 by omega, hz]
              simp
            clear hcs hz
            generalize pg L s = u at *
            generalize pg L (s + 1) = v at *
            have q1 : (s : Int) ≤ 1000000 := by omega
            have q2 : decide (1 < (s : Int) + 2) = true := decide_eq_true (by omega)
            refine wp_region_inv (fun w w' => Below w.heap.size w w') (fun qi_ qv_ _ => qv_ = ([.slice (some ⟨g, 0, none⟩) (s + 2) oc, .int .i64 ((s + 2 : Nat) : Int), .bool true, .bool true, .slice (some ⟨g, 0, none⟩) (s + 2) oc, .slice (some ⟨g, 0, none⟩) (s + 2) oc, .int .i64 ((s + 2 : Nat) : Int), .int .i64 (s : Int), .pointer (some ⟨g, s * 2, none⟩), .agg #[.int .i64 u.1, .int .i64 u.2], .slice (some ⟨g, 0, none⟩) (s + 2) oc, .slice (some ⟨g, 0, none⟩) (s + 2) oc, .int .i64 ((s + 2 : Nat) : Int), .int .i64 ((s + 1 : Nat) : Int), .pointer (some ⟨g, (s + 1) * 2, none⟩), .agg #[.int .i64 v.1, .int .i64 v.2], .agg #[.int .i64 x.1, .int .i64 x.2], .int .i64 z, .bool (decide (z ≤ 0)), .bool (decide (z ≤ 0))] : List Value).getD qi_ undef) (by kernel_rfl) (by kernel_rfl) (fun _ => Below.refl _ _) (fun _ _ _ h1 h2 => below_later h1 h1.size h2) (fun _ _ _ _ _ _ h => h) ?_
            refine inv_cons (fun wx hg hd => ?_) (fun v0 => ?_)
            · have hx := ((Below.refl wr.heap.size wr).drew).trans hg
              clear hd hg
              go_wp2
              exact ⟨_, rfl, Below.refl _ _, rfl⟩
            (try simp only [List.nil_append, Act.put, List.setIfInBounds_toArray, List.set_cons_zero, List.set_cons_succ])
            refine inv_cons (fun wx hg hd => ?_) (fun v1 => ?_)
            · have hx := ((Below.refl wr.heap.size wr).drew).trans hg
              (try (have ee : v0 = (.slice (some ⟨g, 0, none⟩) (s + 2) oc : Value) := hd 0 (by simp) (by decide); subst ee))
              clear hd hg
              go_wp2
              exact ⟨_, rfl, Below.refl _ _, rfl⟩
            (try simp only [List.cons_append, List.nil_append, Act.put, List.setIfInBounds_toArray, List.set_cons_zero, List.set_cons_succ])
            refine inv_cons (fun wx hg hd => ?_) (fun v2 => ?_)
            · have hx := ((Below.refl wr.heap.size wr).drew).trans hg
              (try (have ee : v1 = (.int .i64 ((s + 2 : Nat) : Int) : Value) := hd 1 (by simp) (by decide); subst ee))
              clear hd hg
              go_wp2
              exact ⟨_, rfl, Below.refl _ _, rfl⟩
            (try simp only [List.cons_append, List.nil_append, Act.put, List.setIfInBounds_toArray, List.set_cons_zero, List.set_cons_succ])
            refine inv_cons (fun wx hg hd => ?_) (fun v3 => ?_)
            · have hx := ((Below.refl wr.heap.size wr).drew).trans hg
              (try (have ee : v2 = (.bool true : Value) := hd 2 (by simp) (by decide); subst ee))
              clear hd hg
              go_wp2
              exact ⟨_, rfl, Below.refl _ _, rfl⟩
            (try simp only [List.cons_append, List.nil_append, Act.put, List.setIfInBounds_toArray, List.set_cons_zero, List.set_cons_succ])
            refine inv_cons (fun wx hg hd => ?_) (fun v4 => ?_)
            · have hx := ((Below.refl wr.heap.size wr).drew).trans hg
              (try (have ee : v3 = (.bool true : Value) := hd 3 (by simp) (by decide); subst ee))
              clear hd hg
              go_wp2
              exact ⟨_, rfl, Below.refl _ _, rfl⟩
            (try simp only [List.cons_append, List.nil_append, Act.put, List.setIfInBounds_toArray, List.set_cons_zero, List.set_cons_succ])
            refine inv_cons (fun wx hg hd => ?_) (fun v5 => ?_)
            · have hx := ((Below.refl wr.heap.size wr).drew).trans hg
              (try (have ee : v3 = (.bool true : Value) := hd 3 (by simp) (by decide); subst ee))
              clear hd hg
              go_wp2
              exact ⟨_, rfl, Below.refl _ _, rfl⟩
            (try simp only [List.cons_append, List.nil_append, Act.put, List.setIfInBounds_toArray, List.set_cons_zero, List.set_cons_succ])
            refine inv_cons (fun wx hg hd => ?_) (fun v6 => ?_)
            · have hx := ((Below.refl wr.heap.size wr).drew).trans hg
              (try (have ee : v3 = (.bool true : Value) := hd 3 (by simp) (by decide); subst ee))
              (try (have ee : v5 = (.slice (some ⟨g, 0, none⟩) (s + 2) oc : Value) := hd 5 (by simp) (by decide); subst ee))
              clear hd hg
              go_wp2
              exact ⟨_, rfl, Below.refl _ _, rfl⟩
            (try simp only [List.cons_append, List.nil_append, Act.put, List.setIfInBounds_toArray, List.set_cons_zero, List.set_cons_succ])
            refine inv_cons (fun wx hg hd => ?_) (fun v7 => ?_)
            · have hx := ((Below.refl wr.heap.size wr).drew).trans hg
              (try (have ee : v3 = (.bool true : Value) := hd 3 (by simp) (by decide); subst ee))
              (try (have ee : v6 = (.int .i64 ((s + 2 : Nat) : Int) : Value) := hd 6 (by simp) (by decide); subst ee))
              clear hd hg
              go_wp2
              exact ⟨_, rfl, Below.refl _ _, rfl⟩
            (try simp only [List.cons_append, List.nil_append, Act.put, List.setIfInBounds_toArray, List.set_cons_zero, List.set_cons_succ])
            refine inv_cons (fun wx hg hd => ?_) (fun v8 => ?_)
            · have hx := ((Below.refl wr.heap.size wr).drew).trans hg
              (try (have ee : v3 = (.bool true : Value) := hd 3 (by simp) (by decide); subst ee))
              (try (have ee : v4 = (.slice (some ⟨g, 0, none⟩) (s + 2) oc : Value) := hd 4 (by simp) (by decide); subst ee))
              (try (have ee : v7 = (.int .i64 (s : Int) : Value) := hd 7 (by simp) (by decide); subst ee))
              clear hd hg
              go_wp2
              exact ⟨_, rfl, Below.refl _ _, rfl⟩
            (try simp only [List.cons_append, List.nil_append, Act.put, List.setIfInBounds_toArray, List.set_cons_zero, List.set_cons_succ])
            refine inv_cons (fun wx hg hd => ?_) (fun v9 => ?_)
            · have hx := ((Below.refl wr.heap.size wr).drew).trans hg
              (try (have ee : v3 = (.bool true : Value) := hd 3 (by simp) (by decide); subst ee))
              (try (have ee : v8 = (.pointer (some ⟨g, s * 2, none⟩) : Value) := hd 8 (by simp) (by decide); subst ee))
              clear hd hg
              obtain ⟨⟨k1, k2⟩, k3, k4⟩ := HCS.out _ hx
              go_wp2
              exact ⟨_, rfl, Below.refl _ _, rfl⟩
            (try simp only [List.cons_append, List.nil_append, Act.put, List.setIfInBounds_toArray, List.set_cons_zero, List.set_cons_succ])
            refine inv_cons (fun wx hg hd => ?_) (fun v10 => ?_)
            · have hx := ((Below.refl wr.heap.size wr).drew).trans hg
              (try (have ee : v3 = (.bool true : Value) := hd 3 (by simp) (by decide); subst ee))
              clear hd hg
              go_wp2
              exact ⟨_, rfl, Below.refl _ _, rfl⟩
            (try simp only [List.cons_append, List.nil_append, Act.put, List.setIfInBounds_toArray, List.set_cons_zero, List.set_cons_succ])
            refine inv_cons (fun wx hg hd => ?_) (fun v11 => ?_)
            · have hx := ((Below.refl wr.heap.size wr).drew).trans hg
              (try (have ee : v3 = (.bool true : Value) := hd 3 (by simp) (by decide); subst ee))
              clear hd hg
              go_wp2
              exact ⟨_, rfl, Below.refl _ _, rfl⟩
            (try simp only [List.cons_append, List.nil_append, Act.put, List.setIfInBounds_toArray, List.set_cons_zero, List.set_cons_succ])
            refine inv_cons (fun wx hg hd => ?_) (fun v12 => ?_)
            · have hx := ((Below.refl wr.heap.size wr).drew).trans hg
              (try (have ee : v3 = (.bool true : Value) := hd 3 (by simp) (by decide); subst ee))
              (try (have ee : v11 = (.slice (some ⟨g, 0, none⟩) (s + 2) oc : Value) := hd 11 (by simp) (by decide); subst ee))
              clear hd hg
              go_wp2
              exact ⟨_, rfl, Below.refl _ _, rfl⟩
            (try simp only [List.cons_append, List.nil_append, Act.put, List.setIfInBounds_toArray, List.set_cons_zero, List.set_cons_succ])
            refine inv_cons (fun wx hg hd => ?_) (fun v13 => ?_)
            · have hx := ((Below.refl wr.heap.size wr).drew).trans hg
              (try (have ee : v3 = (.bool true : Value) := hd 3 (by simp) (by decide); subst ee))
              (try (have ee : v12 = (.int .i64 ((s + 2 : Nat) : Int) : Value) := hd 12 (by simp) (by decide); subst ee))
              clear hd hg
              go_wp2
              exact ⟨_, rfl, Below.refl _ _, by go_num⟩
            (try simp only [List.cons_append, List.nil_append, Act.put, List.setIfInBounds_toArray, List.set_cons_zero, List.set_cons_succ])
            refine inv_cons (fun wx hg hd => ?_) (fun v14 => ?_)
            · have hx := ((Below.refl wr.heap.size wr).drew).trans hg
              (try (have ee : v3 = (.bool true : Value) := hd 3 (by simp) (by decide); subst ee))
              (try (have ee : v10 = (.slice (some ⟨g, 0, none⟩) (s + 2) oc : Value) := hd 10 (by simp) (by decide); subst ee))
              (try (have ee : v13 = (.int .i64 ((s + 1 : Nat) : Int) : Value) := hd 13 (by simp) (by decide); subst ee))
              clear hd hg
              go_wp2
              exact ⟨_, rfl, Below.refl _ _, rfl⟩
            (try simp only [List.cons_append, List.nil_append, Act.put, List.setIfInBounds_toArray, List.set_cons_zero, List.set_cons_succ])
            refine inv_cons (fun wx hg hd => ?_) (fun v15 => ?_)
            · have hx := ((Below.refl wr.heap.size wr).drew).trans hg
              (try (have ee : v3 = (.bool true : Value) := hd 3 (by simp) (by decide); subst ee))
              (try (have ee : v14 = (.pointer (some ⟨g, (s + 1) * 2, none⟩) : Value) := hd 14 (by simp) (by decide); subst ee))
              clear hd hg
              obtain ⟨⟨k1, k2⟩, k3, k4⟩ := HCS.out _ hx
              go_wp2
              exact ⟨_, rfl, Below.refl _ _, rfl⟩
            (try simp only [List.cons_append, List.nil_append, Act.put, List.setIfInBounds_toArray, List.set_cons_zero, List.set_cons_succ])
            refine inv_cons (fun wx hg hd => ?_) (fun v16 => ?_)
            · have hx := ((Below.refl wr.heap.size wr).drew).trans hg
              (try (have ee : v3 = (.bool true : Value) := hd 3 (by simp) (by decide); subst ee))
              clear hd hg
              obtain ⟨k1, k2⟩ := HXC.out _ hx
              go_wp2
              exact ⟨_, rfl, Below.refl _ _, rfl⟩
            (try simp only [List.cons_append, List.nil_append, Act.put, List.setIfInBounds_toArray, List.set_cons_zero, List.set_cons_succ])
            refine inv_cons (fun wx hg hd => ?_) (fun v17 => ?_)
            · have hx := ((Below.refl wr.heap.size wr).drew).trans hg
              (try (have ee : v3 = (.bool true : Value) := hd 3 (by simp) (by decide); subst ee))
              (try (have ee : v9 = (.agg #[.int .i64 u.1, .int .i64 u.2] : Value) := hd 9 (by simp) (by decide); subst ee))
              (try (have ee : v15 = (.agg #[.int .i64 v.1, .int .i64 v.2] : Value) := hd 15 (by simp) (by decide); subst ee))
              (try (have ee : v16 = (.agg #[.int .i64 x.1, .int .i64 x.2] : Value) := hd 16 (by simp) (by decide); subst ee))
              clear hd hg
              go_wp2_with fail
              refine (HTU.out _).mono ?_
              rintro e w' ⟨rfl, hb⟩
              go_wp2
              exact ⟨_, rfl, hb, rfl⟩
            (try simp only [List.cons_append, List.nil_append, Act.put, List.setIfInBounds_toArray, List.set_cons_zero, List.set_cons_succ])
            refine inv_cons (fun wx hg hd => ?_) (fun v18 => ?_)
            · have hx := ((Below.refl wr.heap.size wr).drew).trans hg
              (try (have ee : v3 = (.bool true : Value) := hd 3 (by simp) (by decide); subst ee))
              (try (have ee : v17 = (.int .i64 z : Value) := hd 17 (by simp) (by decide); subst ee))
              clear hd hg
              go_wp2
              exact ⟨_, rfl, Below.refl _ _, rfl⟩
            (try simp only [List.cons_append, List.nil_append, Act.put, List.setIfInBounds_toArray, List.set_cons_zero, List.set_cons_succ])
            refine inv_cons (fun wx hg hd => ?_) (fun v19 => ?_)
            · have hx := ((Below.refl wr.heap.size wr).drew).trans hg
              (try (have ee : v3 = (.bool true : Value) := hd 3 (by simp) (by decide); subst ee))
              (try (have ee : v18 = (.bool (decide (z ≤ 0)) : Value) := hd 18 (by simp) (by decide); subst ee))
              clear hd hg
              go_wp2
              exact ⟨_, rfl, Below.refl _ _, rfl⟩
            (try simp only [List.cons_append, List.nil_append, Act.put, List.setIfInBounds_toArray, List.set_cons_zero, List.set_cons_succ])
            refine inv_done (fun wx hg hd => ?_)
            have hx := ((Below.refl wr.heap.size wr).drew).trans hg
            (have ee : v0 = (.slice (some ⟨g, 0, none⟩) (s + 2) oc : Value) := hd 0 (by simp); subst ee)
            (have ee : v1 = (.int .i64 ((s + 2 : Nat) : Int) : Value) := hd 1 (by simp); subst ee)
            (have ee : v2 = (.bool true : Value) := hd 2 (by simp); subst ee)
            (have ee : v3 = (.bool true : Value) := hd 3 (by simp); subst ee)
            (have ee : v4 = (.slice (some ⟨g, 0, none⟩) (s + 2) oc : Value) := hd 4 (by simp); subst ee)
            (have ee : v5 = (.slice (some ⟨g, 0, none⟩) (s + 2) oc : Value) := hd 5 (by simp); subst ee)
            (have ee : v6 = (.int .i64 ((s + 2 : Nat) : Int) : Value) := hd 6 (by simp); subst ee)
            (have ee : v7 = (.int .i64 (s : Int) : Value) := hd 7 (by simp); subst ee)
            (have ee : v8 = (.pointer (some ⟨g, s * 2, none⟩) : Value) := hd 8 (by simp); subst ee)
            (have ee : v9 = (.agg #[.int .i64 u.1, .int .i64 u.2] : Value) := hd 9 (by simp); subst ee)
            (have ee : v10 = (.slice (some ⟨g, 0, none⟩) (s + 2) oc : Value) := hd 10 (by simp); subst ee)
            (have ee : v11 = (.slice (some ⟨g, 0, none⟩) (s + 2) oc : Value) := hd 11 (by simp); subst ee)
            (have ee : v12 = (.int .i64 ((s + 2 : Nat) : Int) : Value) := hd 12 (by simp); subst ee)
            (have ee : v13 = (.int .i64 ((s + 1 : Nat) : Int) : Value) := hd 13 (by simp); subst ee)
            (have ee : v14 = (.pointer (some ⟨g, (s + 1) * 2, none⟩) : Value) := hd 14 (by simp); subst ee)
            (have ee : v15 = (.agg #[.int .i64 v.1, .int .i64 v.2] : Value) := hd 15 (by simp); subst ee)
            (have ee : v16 = (.agg #[.int .i64 x.1, .int .i64 x.2] : Value) := hd 16 (by simp); subst ee)
            (have ee : v17 = (.int .i64 z : Value) := hd 17 (by simp); subst ee)
            (have ee : v18 = (.bool (decide (z ≤ 0)) : Value) := hd 18 (by simp); subst ee)
            (have ee : v19 = (.bool (decide (z ≤ 0)) : Value) := hd 19 (by simp); subst ee)
            clear hd hg
            (try go_simp)
            have HXX := Lib.hid hx
            clear hx
            go_wp2
            go_meet
            exact ⟨by rw [HCZ.out], HXX.out⟩
          · have HCZ : Hid (cb = false) := by
              show _ = _
              rw [← HCB.out]; simp [ht1]
            have HXX : Hid (∀ nq, Below wr.heap.size wr (wr.drewN nq)) := fun nq => below_dn _ _
            have q1 : decide (1 < (t : Int)) = false := decide_eq_false (by omega)
            go_quiet (fail)
            go_wp2
            go_meet
            exact ⟨by rw [HCZ.out], HXX.out _⟩
        case rest =>
          obtain ⟨rfl, HXX⟩ := hcut
          have HBC : Hid (Below w.heap.size w wc) := HBA.out.trans ((HR.out.2.trans (HXX.out.mono HR.out.2.size)).mono HBA.out.size)
          have HAC : Hid (Below wA.heap.size wA wc) := HR.out.2.trans (HXX.out.mono HR.out.2.size)
          have hO := own_later HR.out.1 HXX.out
          cases cb
          case true =>
            have h1 := of_decide_eq_true HCB.out
            obtain ⟨s, rfl⟩ : ∃ s, t = s + 2 := ⟨t - 2, by omega⟩
            obtain ⟨g, rfl⟩ := own_slice HR.out.1 (by omega)
            have hT2 : popN L x (s + 1) = r := by
              rw [← HT.out]
              have := h1.2
              rw [show s + 2 - 2 = s by omega, show s + 2 - 1 = s + 1 by omega] at this
              exact (popN_step L x (s + 1) (by omega) (by simpa using this)).symm
            have HT2 := Lib.hid hT2
            have hcap : s + 2 ≤ oc := by obtain ⟨_, _, _, h, _⟩ := own_block hO; exact h
            have HO2 : Hid (wc.ownsRow w.heap.size 26 2 (.slice (some ⟨g, 0, none⟩) (s + 1) oc) (s + 1) (pV (L.take (s + 1)))) := by
              have := own_take hO (m := s + 1) (by omega)
              rw [pV_take, List.take_take, Nat.min_eq_left (by omega)] at this
              exact this
            clear hO h1 hT2 HR HCB HXC
            go_wp2
            go_roundg (s + 1)
            case measure => omega
            case rel => exact ⟨s + 1, by omega, Nat.le_refl _, rfl, HT2.out, HO2.out, HAC.out⟩
          case false =>
            have h1 := of_decide_eq_false HCB.out
            have hr : r = t := by
              rw [← HT.out]
              rcases (show t = 0 ∨ t = 1 ∨ 1 < t by omega) with rfl | rfl | h2
              · rfl
              · exact popN_one _ _
              · obtain ⟨s, rfl⟩ : ∃ s, t = s + 2 := ⟨t - 2, by omega⟩
                have h3 : ¬ turn (pg L s) (pg L (s + 1)) x ≤ 0 := fun h => h1 ⟨h2, by rw [show s + 2 - 2 = s by omega, show s + 2 - 1 = s + 1 by omega]; exact h⟩
                exact popN_end L x (s + 1) (by rw [Nat.add_sub_cancel]; omega)
            subst hr
            have hLt : (L.take r).length = r := by rw [List.length_take, HM.out]; omega
            have HS1 : Hid ((chainTo l (k + 1)).length = r + 1) := by show _ = _; rw [HS.out, List.length_append, hLt]; rfl
            have HS2 : Hid (pV (chainTo l (k + 1)) = pV (L.take r) ++ [.int .i64 x.1, .int .i64 x.2]) := by show _ = _; rw [HS.out, pV_append]; rfl
            obtain ⟨k1, k2⟩ := HXC.out _ HXX.out
            have hsz : w.heap.size ≤ wc.heap.size := HBC.out.size
            clear HCB HXC HR HXX h1 hLt HS HP HPL HPR HT
            go_wp2_with (at_builtin; refine wpList_append_own _ rfl (.tmp 37) (.tmp 39) 23 rfl w.heap.size 26 i0 (.agg #[.int .i64 0, .int .i64 0]) 2 16 Try.underlying23 hi hz0 hz1 hz2 rfl (by decide) _ _ _ rfl (hO.alloc _) ⟨wc.heap.size, 0, none⟩ 1 1 [.int .i64 x.1, .int .i64 x.2] rfl rfl (cells_new _ _ _ _ rfl) (by simp [Value.oneCell']) (by unfold maxLen; omega) (by omega) (by simp; omega) ?_; intro v' w3 hown1 hgrow _)
            have HB3 : Hid (Below w.heap.size w w3) := below_append (HBC.out.alloc hsz (.cells #[.int .i64 x.1, .int .i64 x.2] 26)) (hO.alloc (.cells #[.int .i64 x.1, .int .i64 x.2] 26)) (by simp; omega) hgrow
            obtain ⟨ao', c', rfl, _⟩ := own_form hown1
            have HO3 := Lib.hid hown1
            clear hown1 hgrow hO hsz
            go_wp2
            go_roundw
            case rel => exact ⟨k + 1, ao', c', by omega, by go_num, by rw [HS1.out], by rw [HS1.out, HS2.out]; exact HO3.out, HB3.out⟩
            case measure => simp [intOf]; omega
    · obtain rfl : k = n := by omega
      have hpos := chainTo_pos l k hn1 (by rw [HN.out]; exact Nat.le_refl _)
      have HC : Hid (chainF l = chainTo l k) := HF.out
      obtain ⟨L, hL⟩ : ∃ L, chainTo l k = L := ⟨_, rfl⟩
      rw [hL] at HR hpos HC ⊢
      obtain ⟨m, hm⟩ : ∃ m, L.length = m := ⟨_, rfl⟩
      have HM := Lib.hid hm
      rw [hm] at HR hpos ⊢
      obtain ⟨g, rfl⟩ := own_slice HR.out.1 hpos
      have hcap : m ≤ oc := by obtain ⟨_, _, _, h, _⟩ := own_block HR.out.1; exact h
      have HO2 : Hid (wr.ownsRow w.heap.size 26 2 (.slice (some ⟨g, 0, none⟩) (m - 1) oc) (m - 1) (pV L.dropLast)) := by
        have := own_take HR.out.1 (m := m - 1) (by omega)
        rw [pV_take, ← HM.out, ← List.dropLast_eq_take] at this
        rw [← HM.out]
        exact this
      have HFF : Hid (Chained w l (.returned (.slice (some ⟨g, 0, none⟩) (m - 1) oc)) wr) := ⟨g, oc, by rw [HC.out, HM.out], by rw [HC.out, HM.out]; exact HO2.out, HR.out.2⟩
      obtain ⟨m, rfl⟩ : ∃ j, m = j + 1 := ⟨m - 1, by omega⟩
      rw [Nat.add_sub_cancel] at HFF
      have hml : m ≤ 1000000 := by
        have := chainTo_le l k (by rw [HN.out]; exact Nat.le_refl _)
        rw [hL, hm] at this; omega
      clear hm hL HR HO2 HC hpos
      go_wp2
      go_ret
      exact HFF.out
end Go.Proofs.Ytcoffankmmjehaa
