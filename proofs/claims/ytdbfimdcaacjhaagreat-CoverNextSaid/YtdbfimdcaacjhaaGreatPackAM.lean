/- Joined: NrA, NrB, NrC, NfI, NfW, NfFn, CvJ, BmA: contracts and plain laws, each with its own heading below. -/
import Derived.Test.YtdbfimdcaacjhaaGreatPackAE
import Derived.Test.YtdbfimdcaacjhaaGreatPackAH
import Derived.Maps.AppendAt
import Derived.Test.YtdbfimdcaacjhaaGreatPackAI
import Derived.Test.YtdbfimdcaacjhaaGreatPackAF
import Derived.Test.YtdbfimdcaacjhaaGreatPackAL
/- Contracts of near.walker: tell, step. -/
namespace Go.Proofs.YtdbfimdcaacjhaaGreat
open Go.RowKit Go.Lib Wd

/-- The words of those numbers that are cells. -/
def tellL (r : Int) (L : List E2) : List Int := (L.filter fun z => okB r z).map fun z => (wordN r.toNat z : Int)
theorem tellL_app (r : Int) (L M : List E2) : tellL r (L ++ M) = tellL r L ++ tellL r M := by unfold tellL; rw [List.filter_append, List.map_append]
theorem tellL_one (r : Int) (z : E2) : tellL r [z] = if okB r z = true then [(ofW r z : Int)] else [] := by
  unfold tellL ofW
  by_cases h : okB r z = true <;> simp [h]
/-- A walker's block: where it stands, and what it has told. -/
def Wkr (w : World) (g : Nat) (r : Int) (z : E2) (v : Value) (l : List Int) : Prop :=
  w.heap[g]? = some (.cells #[.int .i64 r, .int .i64 z.1, .int .i64 z.2, v] 156 (0, 0)) ∧ w.ownsRow (g + 1) 35 1 v l.length (uV l)
theorem Wkr.lt {w : World} {g : Nat} {r : Int} {z : E2} {v : Value} {l : List Int} (h : Wkr w g r z v l) : g < w.heap.size := (Array.getElem?_eq_some_iff.1 h.1).1
theorem Wkr.later {w w' : World} {g : Nat} {r : Int} {z : E2} {v : Value} {l : List Int} (h : Wkr w g r z v l) (hb : Below w.heap.size w w') : Wkr w' g r z v l := ⟨(hb.block g h.lt).trans h.1, own_later h.2 hb⟩
theorem Wkr.cells {w : World} {g : Nat} {r : Int} {z : E2} {v : Value} {l : List Int} (h : Wkr w g r z v l) : w.cell? ⟨g, 0, none⟩ = some (.int .i64 r) ∧ w.cell? ⟨g, 1, none⟩ = some (.int .i64 z.1) ∧ w.cell? ⟨g, 2, none⟩ = some (.int .i64 z.2) ∧ w.cell? ⟨g, 3, none⟩ = some v ∧ w.frozen? ⟨g, 1, none⟩ = false ∧ w.frozen? ⟨g, 2, none⟩ = false ∧ w.frozen? ⟨g, 3, none⟩ = false ∧ g < w.heap.size :=
  ⟨cell_of_row _ _ 0 _ _ _ h.1, cell_of_row _ _ 1 _ _ _ h.1, cell_of_row _ _ 2 _ _ _ h.1, cell_of_row _ _ 3 _ _ _ h.1, by simp [World.frozen?, h.1], by simp [World.frozen?, h.1], by simp [World.frozen?, h.1], h.lt⟩
theorem own_apart {w : World} {g n : Nat} {v : Value} {xs : List Value} (h : w.ownsRow (g + 1) 35 1 v n xs) : ¬ v.ownBlock = some g := fun e => by have := (h.lt g e).1; omega
theorem Wkr.move {w : World} {g : Nat} {r : Int} {z : E2} {v : Value} {l : List Int} (h : Wkr w g r z v l) (y : E2) :
    Wkr ((w.setCell ⟨g, 1, none⟩ (.int .i64 y.1)).setCell ⟨g, 2, none⟩ (.int .i64 y.2)) g r y v l ∧ Turn (fun q => q = g) w ((w.setCell ⟨g, 1, none⟩ (.int .i64 y.1)).setCell ⟨g, 2, none⟩ (.int .i64 y.2)) := by
  have ht : Turn (fun q => q = g) w ((w.setCell ⟨g, 1, none⟩ (.int .i64 y.1)).setCell ⟨g, 2, none⟩ (.int .i64 y.2)) := ((Turn.refl (fun q => q = g) w).setCell (a := ⟨g, 1, none⟩) rfl _).setCell (a := ⟨g, 2, none⟩) rfl _
  refine ⟨⟨?_, ?_⟩, ht⟩
  · rw [Sort.setCell_eq, Sort.setCell_eq]
    simp [Sort.mapBlock, Array.getElem?_modify, h.1, Sort.onCells]
  · obtain ⟨ao, c, rfl, _⟩ := own_form h.2
    exact own_turn h.2 ht fun g' o s e hg => by subst e; subst hg; exact own_apart h.2 rfl
/-- What a walker's methods may turn: its block, and its row, which may move to a new one. -/
def Fr (g : Nat) (v v' : Value) (w w' : World) : Prop := Turn (fun q => q = g ∨ v.ownBlock = some q) w w' ∧ (v'.ownBlock = v.ownBlock ∨ ∃ q, w.heap.size ≤ q ∧ v'.ownBlock = some q)
theorem Fr.refl (g : Nat) (v : Value) (w : World) : Fr g v v w w := ⟨Turn.refl _ _, .inl rfl⟩
theorem Fr.trans {g : Nat} {v v1 v2 : Value} {w w1 w2 : World} (h : Fr g v v1 w w1) (h2 : Fr g v1 v2 w1 w2) : Fr g v v2 w w2 := by
  refine ⟨h.1.trans h2.1 fun k hk hs => ?_, ?_⟩
  · rcases hs with e | e
    · exact .inl e
    · rcases h.2 with e2 | ⟨q, hq, e2⟩
      · exact .inr (e2 ▸ e)
      · rw [e2] at e; cases e; omega
  · rcases h2.2 with e | ⟨q, hq, e⟩
    · rw [e]; exact h.2
    · exact .inr ⟨q, Nat.le_trans h.1.2.2.2.1 hq, e⟩
theorem Fr.of_turn {g : Nat} {v : Value} {w w' : World} (h : Turn (fun q => q = g) w w') : Fr g v v w w' := ⟨h.mono fun _ e => .inl e, .inl rfl⟩
theorem Fr.of_below {g : Nat} {v : Value} {w w' : World} (h : Below w.heap.size w w') : Fr g v v w w' := ⟨Turn.of_below h, .inl rfl⟩
/-- A walker's step. -/
def Walked (w : World) (g : Nat) (r : Int) (y : E2) (v : Value) (l : List Int) (e : Ending) (w' : World) : Prop := e = .returned (.tuple #[]) ∧ ∃ v', Wkr w' g r y v' l ∧ Fr g v v' w w'
set_option maxRecDepth 100000 in
set_option maxHeartbeats 4000000 in
theorem tell_any (g : Nat) (r : Int) (z : E2) (v : Value) (l : List Int) (w : World) (h : Wkr w g r z v l) (hl : l.length ≤ 100000000) :
    Calls Tryz.prog 130 #[.pointer (some ⟨g, 0, none⟩)] w (Walked w g r z v (l ++ tellL r [z])) := by
  obtain ⟨i0, hi, hz0, hz1, hz2⟩ := info_parts info_u
  have HOF := Lib.hid (of_any r z)
  have HTL := Lib.hid (tellL_one r z)
  have HE : Hid (ofE r z = if okB r z = true then 0 else 2) := rfl
  obtain ⟨W, hW⟩ : ∃ W, ofW r z = W := ⟨_, rfl⟩
  rw [hW] at HOF HTL
  have HWX : Hid (∀ wx, Below w.heap.size w wx → Wkr wx g r z v l) := fun wx hx => h.later hx
  clear hW
  obtain ⟨z1, z2⟩ := z
  simp only [vC] at HOF
  obtain ⟨E, hE⟩ : ∃ E, ofE r (z1, z2) = E := ⟨_, rfl⟩
  rw [hE] at HOF HE
  have HPOST : Hid (∀ v' w', Wkr w' g r (z1, z2) v' (l ++ tellL r [(z1, z2)]) → Fr g v v' w w' → Walked w g r (z1, z2) v (l ++ tellL r [(z1, z2)]) (.returned (.tuple #[])) w') := fun v' w' h1 h2 => ⟨rfl, v', h1, h2⟩
  clear hE
  go_enter Tryz.func130, Tryz.ntmps130
  go_upto_region 0 with (fail)
  refine wp_region_inv (fun w w' => Below w.heap.size w w') (fun qi_ qv_ _ => qv_ = ([.pointer (some ⟨g, 0, none⟩), .pointer (some ⟨g, 0, none⟩), .pointer (some ⟨g, 0, none⟩), .int .i64 r, .pointer (some ⟨g, 0, none⟩), .pointer (some ⟨g, 0, none⟩), .pointer (some ⟨g, 1, none⟩), .agg #[.int .i64 z1, .int .i64 z2], .agg #[.int .i64 r, .int .i64 z1, .int .i64 z2], .tuple #[.int .u64 W, .int .i64 E], .tuple #[.int .u64 W, .int .i64 E], .int .u64 W, .int .i64 E, .int .u64 W, .int .i64 E] : List Value).getD qi_ undef) (by kernel_rfl) (by kernel_rfl) (fun _ => Below.refl _ _) (fun _ _ _ h1 h2 => below_later h1 h1.size h2) (fun _ _ _ _ _ _ h => h) ?_
  refine inv_cons (fun wx hg hd => ?_) (fun v0 => ?_)
  · have hx := ((Below.refl w.heap.size w).drew).trans hg
    clear hd hg
    go_wp2
    exact ⟨_, rfl, Below.refl _ _, rfl⟩
  (try simp only [List.nil_append, Act.put, List.setIfInBounds_toArray, List.set_cons_zero, List.set_cons_succ])
  refine inv_cons (fun wx hg hd => ?_) (fun v1 => ?_)
  · have hx := ((Below.refl w.heap.size w).drew).trans hg
    (try (have ee : v0 = (.pointer (some ⟨g, 0, none⟩) : Value) := hd 0 (by simp) (by decide); subst ee))
    clear hd hg
    go_wp2
    exact ⟨_, rfl, Below.refl _ _, rfl⟩
  (try simp only [List.cons_append, List.nil_append, Act.put, List.setIfInBounds_toArray, List.set_cons_zero, List.set_cons_succ])
  refine inv_cons (fun wx hg hd => ?_) (fun v2 => ?_)
  · have hx := ((Below.refl w.heap.size w).drew).trans hg
    (try (have ee : v1 = (.pointer (some ⟨g, 0, none⟩) : Value) := hd 1 (by simp) (by decide); subst ee))
    clear hd hg
    go_wp2
    exact ⟨_, rfl, Below.refl _ _, rfl⟩
  (try simp only [List.cons_append, List.nil_append, Act.put, List.setIfInBounds_toArray, List.set_cons_zero, List.set_cons_succ])
  refine inv_cons (fun wx hg hd => ?_) (fun v3 => ?_)
  · have hx := ((Below.refl w.heap.size w).drew).trans hg
    (try (have ee : v2 = (.pointer (some ⟨g, 0, none⟩) : Value) := hd 2 (by simp) (by decide); subst ee))
    clear hd hg
    obtain ⟨c0, c1, c2, c3, _⟩ := (HWX.out _ hx).cells
    go_wp2
    exact ⟨_, rfl, Below.refl _ _, rfl⟩
  (try simp only [List.cons_append, List.nil_append, Act.put, List.setIfInBounds_toArray, List.set_cons_zero, List.set_cons_succ])
  refine inv_cons (fun wx hg hd => ?_) (fun v4 => ?_)
  · have hx := ((Below.refl w.heap.size w).drew).trans hg
    clear hd hg
    go_wp2
    exact ⟨_, rfl, Below.refl _ _, rfl⟩
  (try simp only [List.cons_append, List.nil_append, Act.put, List.setIfInBounds_toArray, List.set_cons_zero, List.set_cons_succ])
  refine inv_cons (fun wx hg hd => ?_) (fun v5 => ?_)
  · have hx := ((Below.refl w.heap.size w).drew).trans hg
    (try (have ee : v4 = (.pointer (some ⟨g, 0, none⟩) : Value) := hd 4 (by simp) (by decide); subst ee))
    clear hd hg
    go_wp2
    exact ⟨_, rfl, Below.refl _ _, rfl⟩
  (try simp only [List.cons_append, List.nil_append, Act.put, List.setIfInBounds_toArray, List.set_cons_zero, List.set_cons_succ])
  refine inv_cons (fun wx hg hd => ?_) (fun v6 => ?_)
  · have hx := ((Below.refl w.heap.size w).drew).trans hg
    (try (have ee : v5 = (.pointer (some ⟨g, 0, none⟩) : Value) := hd 5 (by simp) (by decide); subst ee))
    clear hd hg
    go_wp2
    exact ⟨_, rfl, Below.refl _ _, rfl⟩
  (try simp only [List.cons_append, List.nil_append, Act.put, List.setIfInBounds_toArray, List.set_cons_zero, List.set_cons_succ])
  refine inv_cons (fun wx hg hd => ?_) (fun v7 => ?_)
  · have hx := ((Below.refl w.heap.size w).drew).trans hg
    (try (have ee : v6 = (.pointer (some ⟨g, 1, none⟩) : Value) := hd 6 (by simp) (by decide); subst ee))
    clear hd hg
    obtain ⟨c0, c1, c2, c3, _⟩ := (HWX.out _ hx).cells
    go_wp2
    exact ⟨_, rfl, Below.refl _ _, rfl⟩
  (try simp only [List.cons_append, List.nil_append, Act.put, List.setIfInBounds_toArray, List.set_cons_zero, List.set_cons_succ])
  refine inv_cons (fun wx hg hd => ?_) (fun v8 => ?_)
  · have hx := ((Below.refl w.heap.size w).drew).trans hg
    (try (have ee : v3 = (.int .i64 r : Value) := hd 3 (by simp) (by decide); subst ee))
    (try (have ee : v7 = (.agg #[.int .i64 z1, .int .i64 z2] : Value) := hd 7 (by simp) (by decide); subst ee))
    clear hd hg
    go_wp2
    exact ⟨_, rfl, Below.refl _ _, rfl⟩
  (try simp only [List.cons_append, List.nil_append, Act.put, List.setIfInBounds_toArray, List.set_cons_zero, List.set_cons_succ])
  refine inv_cons (fun wx hg hd => ?_) (fun v9 => ?_)
  · have hx := ((Below.refl w.heap.size w).drew).trans hg
    (try (have ee : v8 = (.agg #[.int .i64 r, .int .i64 z1, .int .i64 z2] : Value) := hd 8 (by simp) (by decide); subst ee))
    clear hd hg
    go_wp2_with fail
    refine (HOF.out _).mono ?_
    rintro e w' ⟨rfl, hb⟩
    go_wp2
    exact ⟨_, rfl, hb, rfl⟩
  (try simp only [List.cons_append, List.nil_append, Act.put, List.setIfInBounds_toArray, List.set_cons_zero, List.set_cons_succ])
  refine inv_cons (fun wx hg hd => ?_) (fun v10 => ?_)
  · have hx := ((Below.refl w.heap.size w).drew).trans hg
    (try (have ee : v9 = (.tuple #[.int .u64 W, .int .i64 E] : Value) := hd 9 (by simp) (by decide); subst ee))
    clear hd hg
    go_wp2
    exact ⟨_, rfl, Below.refl _ _, rfl⟩
  (try simp only [List.cons_append, List.nil_append, Act.put, List.setIfInBounds_toArray, List.set_cons_zero, List.set_cons_succ])
  refine inv_cons (fun wx hg hd => ?_) (fun v11 => ?_)
  · have hx := ((Below.refl w.heap.size w).drew).trans hg
    (try (have ee : v10 = (.tuple #[.int .u64 W, .int .i64 E] : Value) := hd 10 (by simp) (by decide); subst ee))
    clear hd hg
    go_wp2
    exact ⟨_, rfl, Below.refl _ _, rfl⟩
  (try simp only [List.cons_append, List.nil_append, Act.put, List.setIfInBounds_toArray, List.set_cons_zero, List.set_cons_succ])
  refine inv_cons (fun wx hg hd => ?_) (fun v12 => ?_)
  · have hx := ((Below.refl w.heap.size w).drew).trans hg
    (try (have ee : v10 = (.tuple #[.int .u64 W, .int .i64 E] : Value) := hd 10 (by simp) (by decide); subst ee))
    clear hd hg
    go_wp2
    exact ⟨_, rfl, Below.refl _ _, rfl⟩
  (try simp only [List.cons_append, List.nil_append, Act.put, List.setIfInBounds_toArray, List.set_cons_zero, List.set_cons_succ])
  refine inv_cons (fun wx hg hd => ?_) (fun v13 => ?_)
  · have hx := ((Below.refl w.heap.size w).drew).trans hg
    (try (have ee : v11 = (.int .u64 W : Value) := hd 11 (by simp) (by decide); subst ee))
    clear hd hg
    go_wp2
    exact ⟨_, rfl, Below.refl _ _, rfl⟩
  (try simp only [List.cons_append, List.nil_append, Act.put, List.setIfInBounds_toArray, List.set_cons_zero, List.set_cons_succ])
  refine inv_cons (fun wx hg hd => ?_) (fun v14 => ?_)
  · have hx := ((Below.refl w.heap.size w).drew).trans hg
    (try (have ee : v12 = (.int .i64 E : Value) := hd 12 (by simp) (by decide); subst ee))
    clear hd hg
    go_wp2
    exact ⟨_, rfl, Below.refl _ _, rfl⟩
  (try simp only [List.cons_append, List.nil_append, Act.put, List.setIfInBounds_toArray, List.set_cons_zero, List.set_cons_succ])
  refine inv_done (fun wx hg hd => ?_)
  have hx := ((Below.refl w.heap.size w).drew).trans hg
  (have ee : v0 = (.pointer (some ⟨g, 0, none⟩) : Value) := hd 0 (by simp); subst ee)
  (have ee : v1 = (.pointer (some ⟨g, 0, none⟩) : Value) := hd 1 (by simp); subst ee)
  (have ee : v2 = (.pointer (some ⟨g, 0, none⟩) : Value) := hd 2 (by simp); subst ee)
  (have ee : v3 = (.int .i64 r : Value) := hd 3 (by simp); subst ee)
  (have ee : v4 = (.pointer (some ⟨g, 0, none⟩) : Value) := hd 4 (by simp); subst ee)
  (have ee : v5 = (.pointer (some ⟨g, 0, none⟩) : Value) := hd 5 (by simp); subst ee)
  (have ee : v6 = (.pointer (some ⟨g, 1, none⟩) : Value) := hd 6 (by simp); subst ee)
  (have ee : v7 = (.agg #[.int .i64 z1, .int .i64 z2] : Value) := hd 7 (by simp); subst ee)
  (have ee : v8 = (.agg #[.int .i64 r, .int .i64 z1, .int .i64 z2] : Value) := hd 8 (by simp); subst ee)
  (have ee : v9 = (.tuple #[.int .u64 W, .int .i64 E] : Value) := hd 9 (by simp); subst ee)
  (have ee : v10 = (.tuple #[.int .u64 W, .int .i64 E] : Value) := hd 10 (by simp); subst ee)
  (have ee : v11 = (.int .u64 W : Value) := hd 11 (by simp); subst ee)
  (have ee : v12 = (.int .i64 E : Value) := hd 12 (by simp); subst ee)
  (have ee : v13 = (.int .u64 W : Value) := hd 13 (by simp); subst ee)
  (have ee : v14 = (.int .i64 E : Value) := hd 14 (by simp); subst ee)
  clear hd hg
  (try go_simp)
  have hwk := HWX.out _ hx
  have HFR : Hid (Fr g v v w wx) := Fr.of_below hx
  by_cases hok : okB r (z1, z2) = true
  · have hE0 : E = 0 := by rw [HE.out, if_pos hok]
    have HTL2 : Hid (tellL r [(z1, z2)] = [(W : Int)]) := by show _ = _; rw [HTL.out, if_pos hok]
    subst hE0
    obtain ⟨c0, c1, c2, c3, f1, f2, f3, hgl⟩ := hwk.cells
    have hown := hwk.2
    have hgl2 : g < wx.heap.size + 1 := by omega
    have HWK := Lib.hid hwk.1
    clear hwk HWX hx HOF HTL HE hok
    have HU : Hid (uV (l ++ [(W : Int)]) = uV l ++ [.int .u64 W]) := uV_snoc l W
    have HGW : Hid (∀ w3, (wx.alloc (.cells #[.int .u64 (W : Int)] 35)).grownBy w3 v.ownBlock → w3.heap[g]? = some (.cells #[.int .i64 r, .int .i64 z1, .int .i64 z2, v] 156 (0, 0)) ∧ Turn (fun q => v.ownBlock = some q) wx w3) := fun w3 hg => by
      have hal : Below wx.heap.size wx (wx.alloc (.cells #[.int .u64 (W : Int)] 35)) := (Below.refl _ _).alloc (Nat.le_refl _) _
      have hsa := World.size_alloc wx (.cells #[.int .u64 (W : Int)] 35)
      refine ⟨(hg.block g (by omega) (fun e => own_apart hown e.symm)).trans ((hal.block g hgl).trans HWK.out), hg.os.trans hal.os, hg.tape.trans hal.tape, hg.output.trans hal.output, Nat.le_trans hal.size hg.size, fun k hk hs => (hg.block k (by omega) fun e => hs e.symm).trans (hal.block k hk)⟩
    go_upto_region 2 with (fail)
    go_wp2_with (at_builtin; refine wpList_append_own_at _ rfl (.tmp 23) (.tmp 25) 31 rfl (g + 1) 35 i0 (.int .u64 0) 1 8 Tryz.underlying31 hi hz0 hz1 hz2 rfl (by decide) _ _ _ rfl (hown.alloc _) ⟨wx.heap.size, 0, none⟩ 1 1 [.int .u64 W] rfl rfl (cell_one_new _ _ _) (by simp [Value.oneCell']) (by unfold maxLen; omega) (by omega) (by simp; omega) ?_; intro v' w3 ho3 hgr _ hat; obtain ⟨o3, c3, rfl, hc3, _⟩ := own_form ho3; obtain ⟨hr3, ht3⟩ := HGW.out _ hgr; have k1 : w3.cell? ⟨g, 3, none⟩ = some v := cell_of_row _ _ 3 _ _ _ hr3; have k2 : w3.frozen? ⟨g, 3, none⟩ = false := frozen_of_row _ _ _ _ _ hr3; have HR3 := Lib.hid hr3; have HT3 := Lib.hid ht3; have HO3 := Lib.hid ho3; have HA3 := Lib.hid hat; clear hr3 ht3 hgr ho3 hat)
    go_end0
    have hts : Turn (fun q => q = g) w3 (w3.setCell ⟨g, 3, none⟩ (.slice o3 (l.length + 1) c3)) := (Turn.refl (fun q => q = g) w3).setCell (a := ⟨g, 3, none⟩) rfl _
    have hat : (Value.slice o3 (l.length + 1) c3).ownBlock = v.ownBlock ∨ (Value.slice o3 (l.length + 1) c3).ownBlock = some (wx.alloc (.cells #[.int .u64 (W : Int)] 35)).heap.size := HA3.out
    have hoo : w3.ownsRow (g + 1) 35 1 (.slice o3 (l.length + 1) c3) (l.length + 1) (uV (l ++ [(W : Int)])) := by rw [HU.out]; exact HO3.out
    refine HPOST.out (.slice o3 (l.length + 1) c3) _ ⟨?_, ?_⟩ (HFR.out.trans ⟨?_, ?_⟩)
    · have hr := HR3.out
      rw [Sort.setCell_eq]
      simp [Sort.mapBlock, Array.getElem?_modify, hr, Sort.onCells]
    · rw [HTL2.out, List.length_append, List.length_singleton]
      exact own_turn hoo hts fun g' o s e hg => by subst e; subst hg; exact own_apart hoo rfl
    · exact ((HT3.out).mono (fun _ e => .inr e)).trans hts fun _ _ e => .inl e
    · rcases hat with e | e
      · exact .inl e
      · exact .inr ⟨_, by rw [World.size_alloc]; omega, e⟩
  · have hE2 : E = 2 := by rw [HE.out, if_neg hok]
    have HTL2 : Hid (tellL r [(z1, z2)] = []) := by show _ = _; rw [HTL.out, if_neg hok]
    have HF := Lib.hid (HPOST.out v wx (by rw [HTL2.out, List.append_nil]; exact hwk) HFR.out)
    subst hE2
    clear hwk HWX hx HOF HTL HE hok HPOST
    go_wp2
    go_end0
    exact HF.out
set_option maxRecDepth 100000 in
set_option maxHeartbeats 4000000 in
theorem step_any (g : Nat) (r : Int) (z : E2) (k : Nat) (v : Value) (l : List Int) (w : World) (h : Wkr w g r z v l) (hk : k < 6) (hz : Sm 1099511627776 z) :
    Calls Tryz.prog 131 #[.pointer (some ⟨g, 0, none⟩), .int .i64 k] w (Walked w g r (addE z (unitE k)) v l) := by
  have HUN := Lib.hid (unit_in k hk)
  have hus := left_sm (k + 1)
  have HAD := Lib.hid (add_in z (unitE k) (hz.mono (by decide)) (hus.mono (by decide)))
  have HWX : Hid (∀ wx, Below w.heap.size w wx → Wkr wx g r z v l) := fun wx hx => h.later hx
  obtain ⟨y, hy⟩ : ∃ y, addE z (unitE k) = y := ⟨_, rfl⟩
  rw [hy] at HAD
  have HY := Lib.hid hy
  simp only [vE] at HUN HAD
  generalize unitE k = u at *
  clear hy hz hus h
  obtain ⟨z1, z2⟩ := z
  go_enter Tryz.func131, Tryz.ntmps131
  go_upto_region 0 with (fail)
  have HMV : Hid (∀ wx, Below w.heap.size w wx → Walked w g r y v l (.returned (.tuple #[])) ((wx.setCell ⟨g, 1, none⟩ (.int .i64 y.1)).setCell ⟨g, 2, none⟩ (.int .i64 y.2))) := fun wx hx => by
    have hm := (HWX.out wx hx).move y
    exact ⟨rfl, v, hm.1, (Fr.of_below hx).trans (Fr.of_turn hm.2)⟩
  rw [HY.out]
  have HB0 : Hid (Below w.heap.size w w) := Below.refl _ _
  obtain ⟨c0, c1, c2, c3, f1, f2, f3, hgl⟩ := (HWX.out w HB0.out).cells
  go_region_with (first
    | (go_at_call 46; refine (HUN.out _).mono ?_; rintro e w7 ⟨rfl, hb7⟩; have HB7 : Hid (Below w.heap.size w w7) := ((Below.refl w.heap.size w).drew).trans hb7; clear hb7; obtain ⟨d0, d1, d2, d3, d4, d5, d6, d7⟩ := (HWX.out w7 HB7.out).cells)
    | (go_at_call 45; refine (HAD.out _).mono ?_; rintro e w8 ⟨rfl, hb8⟩; have HB8 : Hid (Below w.heap.size w w8) := HB7.out.trans (hb8.mono HB7.out.size); clear hb8; obtain ⟨e0, e1, e2, e3, e4, e5, e6, e7⟩ := (HWX.out w8 HB8.out).cells))
  all_goals
    go_wp2
    go_end0
    exact HMV.out _ HB8.out
end Go.Proofs.YtdbfimdcaacjhaaGreat
/- The contract of near.walker's ring. -/
namespace Go.Proofs.YtdbfimdcaacjhaaGreat
open Go.RowKit Go.Lib Wd

/-- So many steps one way. -/
def ptP (c u : E2) (j : Nat) : E2 := (c.1 + j * u.1, c.2 + j * u.2)
def lineP (c u : E2) (k : Nat) : List E2 := (List.range k).map fun j => ptP c u j
def corn (z : E2) (k : Nat) : Nat → E2
  | 0 => ptP z (unitE 4) k
  | s + 1 => ptP (corn z k s) (unitE s) k
def sidesP (z : E2) (k : Nat) : Nat → List E2
  | 0 => []
  | s + 1 => sidesP z k s ++ lineP (corn z k s) (unitE s) k
/-- The numbers so many steps away, in the walker's order. -/
def ringL (z : E2) (k : Nat) : List E2 := if k = 0 then [z] else sidesP z k 6
theorem ptP_zero (c u : E2) : ptP c u 0 = c := by unfold ptP; simp
theorem ptP_succ (c u : E2) (j : Nat) : addE (ptP c u j) u = ptP c u (j + 1) := by
  unfold ptP addE
  simp only [Int.natCast_add, Int.natCast_one, Int.add_mul, Int.one_mul, Int.add_assoc]
theorem lineP_succ (c u : E2) (j : Nat) : lineP c u (j + 1) = lineP c u j ++ [ptP c u j] := by
  unfold lineP; rw [List.range_succ, List.map_append]; rfl
theorem ptP_sm {h : Int} {c : E2} (hc : Sm h c) (k : Nat) (j : Nat) : Sm (h + j) (ptP c (unitE k) j) := by
  have hu : unitE k = (1, 0) ∨ unitE k = (0, 1) ∨ unitE k = (-1, 1) ∨ unitE k = (-1, 0) ∨ unitE k = (0, -1) ∨ unitE k = (1, -1) := by
    unfold unitE; split <;> simp
  unfold ptP
  unfold Sm at *
  rcases hu with e | e | e | e | e | e <;> rw [e] <;> simp only <;> omega
theorem corn_sm {h : Int} {z : E2} (hz : Sm h z) (k s : Nat) : Sm (h + (s + 1) * k) (corn z k s) := by
  induction s with
  | zero => exact (ptP_sm hz 4 k).mono (by simp)
  | succ s ih =>
    refine (ptP_sm ih s k).mono ?_
    simp only [Int.natCast_add, Int.natCast_one, Int.add_mul, Int.one_mul]
    omega
theorem lineP_length (c u : E2) (k : Nat) : (lineP c u k).length = k := by unfold lineP; simp
theorem sidesP_length (z : E2) (k s : Nat) : (sidesP z k s).length = s * k := by
  induction s with
  | zero => simp [sidesP]
  | succ s ih => show (sidesP z k s ++ _).length = _; rw [List.length_append, ih, lineP_length, Nat.succ_mul]
theorem tellL_length (r : Int) (L : List E2) : (tellL r L).length ≤ L.length := by unfold tellL; rw [List.length_map]; exact List.length_filter_le _ _
set_option maxRecDepth 100000 in
set_option maxHeartbeats 8000000 in
theorem ring_any (g : Nat) (r : Int) (z : E2) (k : Nat) (v : Value) (l : List Int) (w : World) (h : Wkr w g r z v l) (hz : Sm 2147483648 z) (hk : k ≤ 10000) (hl : l.length ≤ 50000000) :
    Calls Tryz.prog 100 #[.pointer (some ⟨g, 0, none⟩), .int .i64 k] w (Walked w g r z v (l ++ tellL r (ringL z k))) := by
  obtain ⟨c0, c1, c2, c3, f1, f2, f3, hgl⟩ := h.cells
  have hal : Below w.heap.size w (w.alloc (.cells #[.int .i64 z.1, .int .i64 z.2] 23)) := (Below.refl _ _).alloc (Nat.le_refl _) _
  have ksz := World.size_alloc w (.cells #[.int .i64 z.1, .int .i64 z.2] 23)
  have HW2 := Lib.hid (h.later hal)
  have HM2 : Hid (Two (w.alloc (.cells #[.int .i64 z.1, .int .i64 z.2] 23)) w.heap.size (.int .i64 z.1) (.int .i64 z.2)) := Two.of_row (t := 23) (f := _) (heap_new _ _ _ rfl)
  have HF2 : Hid (Fr g v v w (w.alloc (.cells #[.int .i64 z.1, .int .i64 z.2] 23))) := Fr.of_below hal
  have HVM : Hid (¬ v.ownBlock = some w.heap.size) := fun e => by have := (h.2.lt _ e).2; omega
  clear hal h
  by_cases hk0 : k = 0
  · subst hk0
    have HRL : Hid (ringL z 0 = [z]) := rfl
    rw [HRL.out]
    have HT := Lib.hid (tell_any g r z v l _ HW2.out (by omega))
    go_enter Tryz.func100, Tryz.ntmps100
    go_wp2_with fail
    refine HT.out.mono ?_
    rintro e w3 ⟨rfl, v', hw3, hf3⟩
    have HP : Hid (Walked w g r z v (l ++ tellL r [z]) (.returned (.tuple #[])) w3) := ⟨rfl, v', hw3, HF2.out.trans hf3⟩
    clear hw3 hf3
    go_wp2
    go_end0
    exact HP.out
  · have hkpos : 0 < k := by omega
    have qk : ((k : Int) == 0) = false := by simp; omega
    have HRL : Hid (ringL z k = sidesP z k 6) := by show _ = _; unfold ringL; rw [if_neg hk0]
    rw [HRL.out]
    have HSM := Lib.hid hz
    clear hz hk0
    go_enter Tryz.func100, Tryz.ntmps100
    go_upto_region 1 with (fail)
    generalize w.alloc (.cells #[.int .i64 z.1, .int .i64 z.2] 23) = w2 at *
    obtain ⟨m, hm⟩ : ∃ m, w.heap.size = m := ⟨_, rfl⟩
    rw [hm] at HM2 HVM hgl ksz ⊢
    clear hm c0 c1 c2 c3 f1 f2 f3
    go_wp2
    go_loopw [18] (fun i wr => ∃ j : Nat, j ≤ k ∧ i = .int .i64 j ∧ Hid (∃ v', Wkr wr g r (ptP z (unitE 4) j) v' l ∧ Fr g v v' w2 wr)) (fun i _ => k - (intOf i).toNat)
    case atStart => exact ⟨0, by omega, rfl, v, by rw [ptP_zero]; exact HW2.out, Fr.refl _ _ _⟩
    case round =>
      obtain ⟨j, hj, rfl, HI⟩ := hrel
      by_cases hjk : j < k
      · obtain ⟨v', hwk, hfr⟩ := HI.out
        have hs := step_any g r (ptP z (unitE 4) j) 4 v' l wr hwk (by decide) ((ptP_sm HSM.out 4 j).mono (by omega))
        rw [ptP_succ] at hs
        have HST : Hid (Calls Tryz.prog 131 #[.pointer (some ⟨g, 0, none⟩), .int .i64 4] wr (Walked wr g r (ptP z (unitE 4) (j + 1)) v' l)) := hs
        have HFR := Lib.hid hfr
        clear hwk hfr hs HI
        go_wp2_with fail
        refine HST.out.mono ?_
        rintro e w4 ⟨rfl, v'', hw4, hf4⟩
        have HN : Hid (∃ v'', Wkr w4 g r (ptP z (unitE 4) (j + 1)) v'' l ∧ Fr g v v'' w2 w4) := ⟨v'', hw4, HFR.out.trans hf4⟩
        clear hw4 hf4
        go_wp2
        go_roundw
        case rel => exact ⟨j + 1, by omega, by go_num, HN.out⟩
        case measure => simp [intOf]; omega
      · obtain rfl : j = k := by omega
        have HI2 : Hid (∃ v', Wkr wr g r (corn z j 0) v' (l ++ tellL r (sidesP z j 0)) ∧ Fr g v v' w2 wr) := by
          have := HI.out
          rw [show l ++ tellL r (sidesP z j 0) = l by simp [sidesP, tellL]]
          exact this
        clear HI hjk hj
        go_wp2
        have HVN : Hid (¬ v.ownBlock = some m) := HVM.out
        clear HW2 HVM
        go_loopw [23] (fun i wr => ∃ s : Nat, s ≤ 6 ∧ i = .int .i64 s ∧ Hid (∃ v', Wkr wr g r (corn z j s) v' (l ++ tellL r (sidesP z j s)) ∧ Fr g v v' w2 wr)) (fun i _ => 6 - (intOf i).toNat)
        case atStart => exact ⟨0, by omega, rfl, HI2.out⟩
        case round =>
          obtain ⟨s, hs6, rfl, HJ⟩ := hrel
          clear HI2
          by_cases hs : s < 6
          · have HC0 : Hid (∃ v', Wkr wr g r (ptP (corn z j s) (unitE s) 0) v' (l ++ tellL r (sidesP z j s ++ lineP (corn z j s) (unitE s) 0)) ∧ Fr g v v' w2 wr) := by
              have := HJ.out
              rw [ptP_zero, show lineP (corn z j s) (unitE s) 0 = [] from rfl, List.append_nil]
              exact this
            have HCM := Lib.hid (corn_sm HSM.out j s)
            have HC1 : Hid (∀ wr, (∃ v', Wkr wr g r (ptP (corn z j s) (unitE s) j) v' (l ++ tellL r (sidesP z j s ++ lineP (corn z j s) (unitE s) j)) ∧ Fr g v v' w2 wr) → ∃ v', Wkr wr g r (corn z j (s + 1)) v' (l ++ tellL r (sidesP z j (s + 1))) ∧ Fr g v v' w2 wr) := fun wr h => h
            have HSL := Lib.hid (sidesP_length z j s)
            have hsj : s * j ≤ 6 * 10000 := Nat.mul_le_mul hs6 hk
            have hsj2 : ((s : Int) + 1) * (j : Int) ≤ 7 * 10000 := by
              have h1 : (s + 1) * j ≤ 7 * 10000 := Nat.mul_le_mul (by omega) hk
              have h2 : (((s + 1) * j : Nat) : Int) ≤ 70000 := by omega
              simpa using h2
            generalize corn z j s = c at *
            generalize sidesP z j s = SL at *
            obtain ⟨wo, hwo⟩ : ∃ wo : World, wo = wr := ⟨_, rfl⟩
            rw [← hwo] at HC0 ⊢
            clear HJ hwo
            have q6 : decide ((s : Int) < 6) = true := decide_eq_true (by omega)
            go_wp2
            go_loopw [27] (fun i wr => ∃ i' : Nat, i' ≤ j ∧ i = .int .i64 i' ∧ Hid (∃ v', Wkr wr g r (ptP c (unitE s) i') v' (l ++ tellL r (SL ++ lineP c (unitE s) i')) ∧ Fr g v v' w2 wr)) (fun i _ => j - (intOf i).toNat)
            case atStart => exact ⟨0, by omega, rfl, HC0.out⟩
            case round =>
              obtain ⟨i', hi', rfl, HK⟩ := hrel
              by_cases hij : i' < j
              · obtain ⟨v', hwk, hfr⟩ := HK.out
                have hlen : (l ++ tellL r (SL ++ lineP c (unitE s) i')).length ≤ 100000000 := by
                  have h1 := tellL_length r (SL ++ lineP c (unitE s) i')
                  have h2 := HSL.out
                  rw [List.length_append, lineP_length] at h1
                  rw [List.length_append]
                  omega
                have HTE := Lib.hid (tell_any g r (ptP c (unitE s) i') v' (l ++ tellL r (SL ++ lineP c (unitE s) i')) wr hwk hlen)
                have HAPP : Hid ((l ++ tellL r (SL ++ lineP c (unitE s) i')) ++ tellL r [ptP c (unitE s) i'] = l ++ tellL r (SL ++ lineP c (unitE s) (i' + 1))) := by
                  show _ = _
                  rw [lineP_succ, ← List.append_assoc, tellL_app r (SL ++ _) [_], List.append_assoc]
                rw [HAPP.out] at HTE
                have hpm : Sm 1099511627776 (ptP c (unitE s) i') := (ptP_sm HCM.out s i').mono (by omega)
                have HSTP := Lib.hid (fun v4 w4 (h4 : Wkr w4 g r (ptP c (unitE s) i') v4 (l ++ tellL r (SL ++ lineP c (unitE s) (i' + 1)))) => step_any g r (ptP c (unitE s) i') s v4 (l ++ tellL r (SL ++ lineP c (unitE s) (i' + 1))) w4 h4 hs hpm)
                simp only [ptP_succ] at HSTP
                have HFR := Lib.hid hfr
                clear hwk hfr hlen hpm HK
                go_wp2_with fail
                refine HTE.out.mono ?_
                rintro e w4 ⟨rfl, v4, hw4, hf4⟩
                have HS4 := Lib.hid (HSTP.out v4 w4 hw4)
                have HF4 := Lib.hid (HFR.out.trans hf4)
                clear hw4 hf4
                go_wp2_with fail
                refine HS4.out.mono ?_
                rintro e w5 ⟨rfl, v5, hw5, hf5⟩
                have HN : Hid (∃ v', Wkr w5 g r (ptP c (unitE s) (i' + 1)) v' (l ++ tellL r (SL ++ lineP c (unitE s) (i' + 1))) ∧ Fr g v v' w2 w5) := ⟨v5, hw5, HF4.out.trans hf5⟩
                clear hw5 hf5
                go_wp2
                go_roundw
                case rel => first | exact ⟨i' + 1, by omega, by go_num, HN.out⟩ | ((repeat apply Exists.intro); exact ⟨⟨i' + 1, by omega, by go_num, HN.out⟩, rfl⟩)
                case measure => simp [intOf]; omega
              · obtain rfl : i' = j := by omega
                have HN := Lib.hid (HC1.out wr HK.out)
                clear HK HC1
                go_wp2
                go_roundw
                case rel => exact ⟨s + 1, by omega, by go_num, HN.out⟩
                case measure => simp [intOf]; omega
          · obtain rfl : s = 6 := by omega
            obtain ⟨v', hwk, hfr⟩ := HJ.out
            have hm2 := HM2.out.turn hfr.1 (by omega) (fun e => e.elim (fun e => by omega) HVN.out)
            obtain ⟨m0, m1⟩ := hm2
            have hmv := hwk.move z
            have HP : Hid (Walked w g r z v (l ++ tellL r (sidesP z j 6)) (.returned (.tuple #[])) ((wr.setCell ⟨g, 1, none⟩ (.int .i64 z.1)).setCell ⟨g, 2, none⟩ (.int .i64 z.2))) := ⟨rfl, v', hmv.1, (HF2.out.trans hfr).trans (Fr.of_turn hmv.2)⟩
            obtain ⟨c0, c1, c2, c3, f1, f2, f3, hgr⟩ := hwk.cells
            clear hwk hfr hmv HJ
            go_wp2
            go_end0
            exact HP.out
end Go.Proofs.YtdbfimdcaacjhaaGreat
/- Contracts of near.rings, Neighbours, Ring, Disk. -/
namespace Go.Proofs.YtdbfimdcaacjhaaGreat
open Go.RowKit Go.Lib Wd Go.Sort

theorem sortw_any (B n c : Nat) (ao : Option Addr) (l : List Int) (w : World) (hn : l.length = n) (hl : n ≤ 1000000000) (hown : w.ownsRow B 35 1 (.slice ao n c) n (uV l)) :
    Calls Tryz.prog 47 #[.slice ao n c] w fun e w' => e = .returned (.tuple #[]) ∧ WordsAt w' w'.heap.size ao (srt l) ∧ Turn (fun q => (Value.slice ao n c).ownBlock = some q) w w' := by
  by_cases h0 : n = 0
  · subst h0
    obtain rfl : l = [] := List.eq_nil_of_length_eq_zero hn
    refine (u64_Sort_int_nil ao c w).mono ?_
    rintro e w2 ⟨rfl, hw⟩
    subst hw
    exact ⟨rfl, fun h => by simp [srt] at h, Turn.refl _ _⟩
  · obtain ⟨g, rfl, hg0, hg, _, hH⟩ := holds_own (by omega) hown
    have hs := u64_slices_Sort_int g 0 c l w hH hg (by omega)
    rw [hn] at hs
    refine hs.mono ?_
    rintro e w2 ⟨rfl, q, os, hw2⟩
    have hH2 : Holds encU w2 g 0 (srt l).toArray := by
      rw [hw2]
      refine holds_grow _ _ _ _ _ _ (by simpa [putRow, mapBlock, Sort.ahead] using hg) ?_
      exact holds_putRow _ _ _ _ l.toArray _ (holds_ahead _ _ _ _ _ _ hH) (by simp)
    have hz : w.heap.size ≤ w2.heap.size := by
      rw [hw2]
      simp [grow, putRow, mapBlock, Sort.ahead]
    have hw := words_of_holds (by omega) hH2 (srt l).length (Nat.le_refl _)
    rw [List.take_length] at hw
    refine ⟨rfl, hw, ?_⟩
    rw [hw2] at hz ⊢
    refine ⟨rfl, rfl, rfl, hz, fun k hk hs => ?_⟩
    have hne : g ≠ k := fun e => hs (by rw [e]; rfl)
    refine (heap_grow_old _ os (by simpa [putRow, mapBlock, Sort.ahead] using hk)).trans ?_
    simp [putRow, mapBlock, Sort.ahead, Array.getElem?_modify, hne]
def allR (z : E2) (f : Nat) : Nat → List E2
  | 0 => []
  | n + 1 => allR z f n ++ ringL z (f + n)
/-- Whether rings may be told: the error. -/
def rgsE (w0 : Nat) (t m : Int) : Int := if isW w0 = true then (if t < 0 then 1 else if m < t then 7 else 0) else 5
def rgsL (w0 f : Nat) (t m : Int) : List Int := if rgsE w0 t m = 0 then srt (tellL (rW w0) (allR (zW w0) f (t + 1 - f).toNat)) else []
/-- What is told: words in memory, and an error. -/
def Told (w : World) (L : List Int) (E : Int) (e : Ending) (w' : World) : Prop := ∃ ao c, e = .returned (.tuple #[.slice ao L.length c, .int .i64 E]) ∧ WordsAt w' w'.heap.size ao L ∧ Below w.heap.size w w'
theorem Told.nil {w w' : World} {E : Int} (h : Below w.heap.size w w') : Told w [] E (.returned (.tuple #[.slice none 0 0, .int .i64 E])) w'  := ⟨Option.none, 0, rfl, fun h => by simp at h, h⟩
theorem allR_length {z : E2} {f : Nat} (n : Nat) : (allR z f (n + 1)).length = (allR z f n).length + (ringL z (f + n)).length := by
  show (allR z f n ++ _).length = _; rw [List.length_append]
theorem allR_mono (z : E2) (f : Nat) {i j : Nat} (h : i ≤ j) : (allR z f i).length ≤ (allR z f j).length := by
  obtain ⟨d, rfl⟩ : ∃ d, j = i + d := ⟨j - i, by omega⟩
  clear h
  induction d with
  | zero => exact Nat.le_refl _
  | succ d ih => rw [← Nat.add_assoc, allR_length]; omega
set_option maxRecDepth 100000 in
set_option maxHeartbeats 8000000 in
theorem rings_any (w0 : Nat) (hw0 : w0 < 18446744073709551616) (fi : Int) (f : Nat) (t m : Int) (hfi : fi = f ∨ t < 0) (hf : (f : Int) ≤ t + 1 ∨ t < 0) (ht : t < 9223372036854775808) (ht2 : t ≤ m → t ≤ 9999) (hlen : t ≤ m → 0 ≤ t → (allR (zW w0) f (t + 1 - f).toNat).length ≤ 1000000) (w : World) :
    Calls Tryz.prog 65 #[.int .u64 w0, .int .i64 fi, .int .i64 t, .int .i64 m] w (Told w (rgsL w0 f t m) (rgsE w0 t m)) := by
  have HC := Lib.hid (cell_any w0 hw0)
  have HE : Hid (rgsE w0 t m = if isW w0 = true then (if t < 0 then 1 else if m < t then 7 else 0) else 5) := rfl
  have HL : Hid (rgsL w0 f t m = if rgsE w0 t m = 0 then srt (tellL (rW w0) (allR (zW w0) f (t + 1 - f).toNat)) else []) := rfl
  have HBAD : Hid (∀ E w', rgsE w0 t m = E → E ≠ 0 → Below w.heap.size w w' → Told w (rgsL w0 f t m) (rgsE w0 t m) (.returned (.tuple #[.slice none 0 0, .int .i64 E])) w') := fun E w' h1 h2 hb => by
    rw [HL.out, h1, if_neg h2]
    exact Told.nil hb
  by_cases hW : isW w0 = true
  · have hcv : cvE w0 = 0 := by unfold cvE; rw [if_pos hW]
    rw [hcv] at HC
    by_cases ht0 : t < 0
    · have HB := Lib.hid (fun w' => HBAD.out 1 w' (by rw [HE.out, if_pos hW, if_pos ht0]) (by decide))
      have q1 : decide (t < 0) = true := decide_eq_true ht0
      simp only [vC] at HC
      clear hf ht2 hlen HBAD HL HE hfi
      go_enter Tryz.func65, Tryz.ntmps65
      go_wp2_with fail
      refine (HC.out _).mono ?_
      rintro e w1 ⟨rfl, hb⟩
      have HB2 := Lib.hid (HB.out _ (hb.alloc hb.size (.cells #[.int .i64 (cvR w0), .int .i64 (cvZ w0).1, .int .i64 (cvZ w0).2] 27)))
      clear hb
      go_wp2
      go_ret2
      exact HB2.out
    · have q1 : decide (t < 0) = false := decide_eq_false ht0
      by_cases htm : m < t
      · have HB := Lib.hid (fun w' => HBAD.out 7 w' (by rw [HE.out, if_pos hW, if_neg ht0, if_pos htm]) (by decide))
        have q2 : decide (m < t) = true := decide_eq_true htm
        simp only [vC] at HC
        clear hf ht2 hlen HBAD HL HE hfi
        go_enter Tryz.func65, Tryz.ntmps65
        go_wp2_with fail
        refine (HC.out _).mono ?_
        rintro e w1 ⟨rfl, hb⟩
        have HB2 := Lib.hid (HB.out _ (hb.alloc hb.size (.cells #[.int .i64 (cvR w0), .int .i64 (cvZ w0).1, .int .i64 (cvZ w0).2] 27)))
        clear hb
        go_wp2
        go_ret2
        exact HB2.out
      · have q2 : decide (m < t) = false := decide_eq_false htm
        have hE0 : rgsE w0 t m = 0 := by rw [HE.out, if_pos hW, if_neg ht0, if_neg htm]
        have HL2 : Hid (rgsL w0 f t m = srt (tellL (rW w0) (allR (zW w0) f (t + 1 - f).toNat))) := by show _ = _; rw [HL.out, if_pos hE0]
        rw [hE0, HL2.out]
        have hcr : cvR w0 = (rW w0 : Int) := by unfold cvR; rw [if_pos hW]
        have hcz : cvZ w0 = zW w0 := by unfold cvZ; rw [if_pos hW]
        rw [hcr, hcz] at HC
        have hsm : Sm 2147483648 (zW w0) := by
          have := (shapeB_iff _ _).1 ((okB_iff _ _).1 (cell_word hW).1).1
          unfold Sm; omega
        have hft : (f : Int) ≤ t + 1 := hf.resolve_right ht0
        obtain rfl : fi = f := hfi.resolve_right ht0
        have ht9 := ht2 (by omega)
        have hln := hlen (by omega) (by omega)
        clear hf ht2 hlen HBAD HL HE hE0 HL2 hcr hcz hcv hW hfi
        generalize zW w0 = z at *
        generalize rW w0 = R at *
        simp only [vC] at HC
        obtain ⟨N, hN⟩ : ∃ N, (t + 1 - f).toNat = N := ⟨_, rfl⟩
        rw [hN] at hln ⊢
        have htN : t + 1 = f + N := by omega
        clear hN
        obtain ⟨L0, hL0⟩ : ∃ L, srt (tellL R (allR z f N)) = L := ⟨_, rfl⟩
        rw [hL0]
        have HLE := Lib.hid hL0
        clear hL0
        go_enter Tryz.func65, Tryz.ntmps65
        go_wp2_with fail
        refine (HC.out _).mono ?_
        rintro e w1 ⟨rfl, hb⟩
        have hal : Below w1.heap.size w1 ((w1.alloc (.cells #[.int .i64 R, .int .i64 z.1, .int .i64 z.2] 27)).alloc (.cells #[.int .i64 R, .int .i64 z.1, .int .i64 z.2, .slice none 0 0] 156)) := ((Below.refl _ _).alloc (Nat.le_refl _) _).alloc (by simp) _
        have ksz : ((w1.alloc (.cells #[.int .i64 R, .int .i64 z.1, .int .i64 z.2] 27)).alloc (.cells #[.int .i64 R, .int .i64 z.1, .int .i64 z.2, .slice none 0 0] 156)).heap.size = w1.heap.size + 2 := by simp
        have HB2 : Hid (Below w.heap.size w ((w1.alloc (.cells #[.int .i64 R, .int .i64 z.1, .int .i64 z.2] 27)).alloc (.cells #[.int .i64 R, .int .i64 z.1, .int .i64 z.2, .slice none 0 0] 156))) := hb.trans (hal.mono hb.size)
        have HK2 : Hid (Wkr ((w1.alloc (.cells #[.int .i64 R, .int .i64 z.1, .int .i64 z.2] 27)).alloc (.cells #[.int .i64 R, .int .i64 z.1, .int .i64 z.2, .slice none 0 0] 156)) (w1.heap.size + 1) R z (.slice none 0 0) []) := ⟨heap_new _ _ _ (by simp), World.ownsRow_nil _ _ _ _⟩
        have hwz := hb.size
        clear hal hb HC
        go_upto_region 9 with (fail)
        generalize (w1.alloc (.cells #[.int .i64 R, .int .i64 z.1, .int .i64 z.2] 27)).alloc (.cells #[.int .i64 R, .int .i64 z.1, .int .i64 z.2, .slice none 0 0] 156) = w2 at *
        obtain ⟨g, hg⟩ : ∃ g, w1.heap.size + 1 = g := ⟨_, rfl⟩
        rw [hg] at HK2 ⊢
        have hg2 : w2.heap.size = g + 1 := by omega
        have hgw : w.heap.size < g := by omega
        clear hg ksz hwz
        go_wp2
        go_loopw [13] (fun i wr => ∃ j : Nat, j ≤ N ∧ i = .int .i64 ((f : Int) + j) ∧ Hid (∃ v', Wkr wr g R z v' (tellL R (allR z f j)) ∧ Fr g (.slice none 0 0) v' w2 wr)) (fun i _ => (f + N) - (intOf i).toNat)
        case atStart => exact ⟨0, by omega, by simp, _, HK2.out, Fr.refl _ _ _⟩
        case round =>
          obtain ⟨j, hj, rfl, HI⟩ := hrel
          by_cases hjN : j < N
          · obtain ⟨v', hwk, hfr⟩ := HI.out
            have hl1 := allR_mono z f (show j ≤ N by omega)
            have hl2 := tellL_length R (allR z f j)
            have hr := ring_any g R z (f + j) v' (tellL R (allR z f j)) wr hwk hsm (by omega) (by omega)
            rw [← tellL_app] at hr
            have HR : Hid (Calls Tryz.prog 100 #[.pointer (some ⟨g, 0, none⟩), .int .i64 ((f : Int) + j)] wr (Walked wr g R z v' (tellL R (allR z f (j + 1))))) := by
              have := hr
              rw [Int.natCast_add] at this
              exact this
            have HFR := Lib.hid hfr
            have q4 : decide ((f : Int) + j ≤ t) = true := decide_eq_true (by omega)
            clear hwk hfr hr HI hl1 hl2
            go_wp2_with fail
            refine HR.out.mono ?_
            rintro e w4 ⟨rfl, v4, hw4, hf4⟩
            have HN : Hid (∃ v', Wkr w4 g R z v' (tellL R (allR z f (j + 1))) ∧ Fr g (.slice none 0 0) v' w2 w4) := ⟨v4, hw4, HFR.out.trans hf4⟩
            clear hw4 hf4
            go_wp2
            go_roundw
            case rel => exact ⟨j + 1, by omega, by simp; omega, HN.out⟩
            case measure => simp [intOf]; omega
          · obtain rfl : j = N := by omega
            obtain ⟨v', hwk, hfr⟩ := HI.out
            have q4 : decide ((f : Int) + j ≤ t) = false := decide_eq_false (by omega)
            have hl2 := tellL_length R (allR z f j)
            have hap := own_apart hwk.2
            obtain ⟨ao, c, rfl, _⟩ := own_form hwk.2
            have HS := Lib.hid (sortw_any (g + 1) _ c ao _ wr rfl (by omega) hwk.2)
            have HSL : Hid (srt (tellL R (allR z f j)) = L0) := HLE.out
            rw [HSL.out] at HS
            have hll : L0.length = (tellL R (allR z f j)).length := by rw [← HSL.out]; exact srt_length _
            have HBR : Hid (Below w.heap.size w wr) := HB2.out.trans (hfr.1.below (by omega) fun q hq e => e.elim (fun e => by omega) (fun e => by cases e))
            have hlt := hwk.2.lt
            obtain ⟨c0, c1, c2, c3, f1, f2, f3, hgl⟩ := hwk.cells
            have HG := Lib.hid hwk.1
            rw [← hll] at HS c3 hap hlt
            have HHL := Lib.hid hll
            clear hwk hfr HI hl2 hll
            go_wp2_with fail
            refine HS.out.mono ?_
            rintro e w5 ⟨rfl, hwd, htn⟩
            have k3 : w5.cell? ⟨g, 3, none⟩ = some (.slice ao L0.length c) := (htn.cell (p := ⟨g, 3, none⟩) hgl hap).trans c3
            have HB5 : Hid (Below w.heap.size w w5) := HBR.out.trans (htn.below (by have := HBR.out.size; omega) fun q hq e => by have := (hlt q e).1; omega)
            have HW5 := Lib.hid hwd
            clear hwd htn c0 c1 c2 c3
            go_wp2
            go_ret2
            exact ⟨ao, c, rfl, HW5.out, HB5.out⟩
  · have hcv : cvE w0 = 5 := by unfold cvE; rw [if_neg hW]
    rw [hcv] at HC
    have HB := Lib.hid (fun w' => HBAD.out 5 w' (by rw [HE.out, if_neg hW]) (by decide))
    simp only [vC] at HC
    clear hf ht2 hlen HBAD HL HE hfi
    go_enter Tryz.func65, Tryz.ntmps65
    go_wp2_with fail
    refine (HC.out _).mono ?_
    rintro e w1 ⟨rfl, hb⟩
    have HB2 := Lib.hid (HB.out _ (hb.alloc hb.size (.cells #[.int .i64 (cvR w0), .int .i64 (cvZ w0).1, .int .i64 (cvZ w0).2] 27)))
    clear hb
    go_wp2
    go_ret2
    exact HB2.out
theorem told_pass {w w1 : World} {L : List Int} {E : Int} {e : Ending} (h : Told w L E e w1) : ∃ ao c, e = .returned (.tuple #[.slice ao L.length c, .int .i64 E]) ∧ Told w L E (.returned (.tuple #[.slice ao L.length c, .int .i64 E])) w1 := by
  obtain ⟨ao, c, rfl, h2⟩ := h
  exact ⟨ao, c, rfl, ao, c, rfl, h2⟩
theorem sidesP_len6 (z : E2) (k : Nat) : (ringL z k).length ≤ 6 * k + 1 := by
  unfold ringL
  split
  · simp
  · rw [sidesP_length]; omega
theorem allR_bound (z : E2) (f n : Nat) : (allR z f n).length ≤ n * (6 * (f + n) + 1) := by
  induction n with
  | zero => simp [allR]
  | succ n ih =>
    rw [allR_length]
    have h1 := sidesP_len6 z (f + n)
    have h2 : n * (6 * (f + n) + 1) ≤ n * (6 * (f + (n + 1)) + 1) := Nat.mul_le_mul_left _ (by omega)
    rw [Nat.succ_mul]
    omega
/-- The cells beside a word's. -/
theorem nei_any (w0 : Nat) (hw0 : w0 < 18446744073709551616) (w : World) : Calls Tryz.prog 31 #[.int .u64 w0] w (Told w (rgsL w0 1 1 1) (rgsE w0 1 1)) := by
  have H := Lib.hid (rings_any w0 hw0 1 1 1 1 (by omega) (by omega) (by omega) (by omega) (fun _ _ => Nat.le_trans (allR_bound _ _ _) (by decide)) w)
  generalize rgsL w0 1 1 1 = L at *
  generalize rgsE w0 1 1 = E at *
  go_enter Tryz.func31, Tryz.ntmps31
  go_wp2_with fail
  refine H.out.mono ?_
  rintro e w1 h
  obtain ⟨ao, c, rfl, h2⟩ := told_pass h
  have HT := Lib.hid h2
  clear h h2
  go_wp2
  go_ret2
  exact HT.out
end Go.Proofs.YtdbfimdcaacjhaaGreat
/- Rings and disks: which numbers they hold. Plain. -/
namespace Go.Proofs.YtdbfimdcaacjhaaGreat
open Go.RowKit Go.Lib Wd

theorem lineP_mem (c u y : E2) (k : Nat) : y ∈ lineP c u k ↔ ∃ j : Nat, j < k ∧ y = (c.1 + j * u.1, c.2 + j * u.2) := by
  unfold lineP
  rw [List.mem_map]
  constructor
  · rintro ⟨j, hj, rfl⟩; exact ⟨j, List.mem_range.1 hj, rfl⟩
  · rintro ⟨j, hj, rfl⟩; exact ⟨j, List.mem_range.2 hj, rfl⟩
theorem corn_at (z : E2) (k : Nat) : corn z k 0 = (z.1, z.2 - k) ∧ corn z k 1 = (z.1 + k, z.2 - k) ∧ corn z k 2 = (z.1 + k, z.2) ∧ corn z k 3 = (z.1, z.2 + k) ∧ corn z k 4 = (z.1 - k, z.2 + k) ∧ corn z k 5 = (z.1 - k, z.2) := by
  simp only [corn, ptP, unitE, Prod.mk.injEq]
  omega
/-- A ring's numbers are those so far away. -/
theorem ring_mem (z y : E2) (k : Nat) : y ∈ ringL z k ↔ Hex k (subE y z) ∧ ¬ Hex ((k : Int) - 1) (subE y z) := by
  obtain ⟨c0, c1, c2, c3, c4, c5⟩ := corn_at z k
  obtain ⟨a, b⟩ := y
  obtain ⟨p, q⟩ := z
  unfold ringL
  split
  · subst k
    unfold Hex subE
    simp only [List.mem_singleton, Prod.mk.injEq]
    omega
  · simp only [sidesP, List.nil_append, List.mem_append, lineP_mem, c0, c1, c2, c3, c4, c5, unitE, Prod.mk.injEq]
    unfold Hex subE
    simp only
    constructor
    · rintro (((((⟨j, h1, h2, h3⟩ | ⟨j, h1, h2, h3⟩) | ⟨j, h1, h2, h3⟩) | ⟨j, h1, h2, h3⟩) | ⟨j, h1, h2, h3⟩) | ⟨j, h1, h2, h3⟩) <;> omega
    · intro ⟨h1, h2⟩
      rcases (show (b - q = -k ∧ 0 ≤ a - p ∧ a - p < k) ∨ (a - p = k ∧ -k ≤ b - q ∧ b - q < 0) ∨ (a - p + (b - q) = k ∧ 0 ≤ b - q ∧ b - q < k) ∨ (b - q = k ∧ -k < a - p ∧ a - p ≤ 0) ∨ (a - p = -k ∧ 0 < b - q ∧ b - q ≤ k) ∨ (a - p + (b - q) = -k ∧ -k < b - q ∧ b - q ≤ 0) by omega) with h | h | h | h | h | h
      · exact .inl (.inl (.inl (.inl (.inl ⟨(a - p).toNat, by omega, by omega, by omega⟩))))
      · exact .inl (.inl (.inl (.inl (.inr ⟨(b - q + k).toNat, by omega, by omega, by omega⟩))))
      · exact .inl (.inl (.inl (.inr ⟨(b - q).toNat, by omega, by omega, by omega⟩)))
      · exact .inl (.inl (.inr ⟨(p - a).toNat, by omega, by omega, by omega⟩))
      · exact .inl (.inr ⟨(k - (b - q)).toNat, by omega, by omega, by omega⟩)
      · exact .inr ⟨(q - b).toNat, by omega, by omega, by omega⟩
theorem disk_mem (z y : E2) (n : Nat) : y ∈ allR z 0 n ↔ Hex ((n : Int) - 1) (subE y z) := by
  induction n with
  | zero =>
    unfold allR Hex
    simp only [List.not_mem_nil, false_iff]
    omega
  | succ n ih =>
    show y ∈ allR z 0 n ++ ringL z (0 + n) ↔ _
    rw [List.mem_append, ih, Nat.zero_add, ring_mem]
    unfold Hex
    simp only [Int.natCast_add, Int.natCast_one]
    omega
theorem srt_rising (l : List Int) : Rising (srt l) := by
  intro i j hij hj
  have hi : i < (srt l).length := by omega
  have e1 : (srt l).getD i 0 = (srt l)[i] := by rw [List.getD_eq_getElem?_getD, List.getElem?_eq_getElem hi]; rfl
  have e2 : (srt l).getD j 0 = (srt l)[j] := by rw [List.getD_eq_getElem?_getD, List.getElem?_eq_getElem hj]; rfl
  rw [e1, e2]
  rcases Nat.lt_or_eq_of_le hij with h | h
  · exact List.pairwise_iff_getElem.1 (srt_sorted l) i j hi hj h
  · subst h; exact Int.le_refl _
theorem disk_len (z : E2) (n : Nat) : (allR z 0 (n + 1)).length = 3 * n * (n + 1) + 1 := by
  induction n with
  | zero => rfl
  | succ n ih =>
    rw [allR_length, ih]
    have : (ringL z (0 + (n + 1))).length = 6 * (n + 1) := by
      unfold ringL
      rw [if_neg (by omega), sidesP_length, Nat.zero_add]
    rw [this]
    simp only [Nat.mul_add, Nat.add_mul]
    omega
/-- Where all may be, all are told. -/
theorem tell_all {r : Int} {L : List E2} (h : ∀ y ∈ L, okB r y = true) : (tellL r L).length = L.length := by
  unfold tellL
  rw [List.length_map, List.filter_eq_self.2 h]
theorem tell_sub {r : Int} {L M : List E2} (h : ∀ y ∈ L, y ∈ M) : ∀ v ∈ srt (tellL r L), v ∈ srt (tellL r M) := by
  intro v hv
  rw [srt_mem] at hv ⊢
  unfold tellL at hv ⊢
  obtain ⟨y, hy, rfl⟩ := List.mem_map.1 hv
  obtain ⟨h1, h2⟩ := List.mem_filter.1 hy
  exact List.mem_map.2 ⟨y, List.mem_filter.2 ⟨h y h1, h2⟩, rfl⟩
end Go.Proofs.YtdbfimdcaacjhaaGreat
/- The contract of apiaryref1.IsWord. -/
namespace Go.Proofs.YtdbfimdcaacjhaaGreat
open Go.RowKit Go.Lib Wd

end Go.Proofs.YtdbfimdcaacjhaaGreat
/- Contract of apiarylaw6.awake; rings of cells that may be. -/
namespace Go.Proofs.YtdbfimdcaacjhaaGreat
open Go.RowKit Go.Lib Wd

theorem rgs_word {r : Nat} {z : E2} (h : okB r z = true) (f n : Nat) (t m : Int) (ht : 0 ≤ t) (hm : t ≤ m) (hn : (t + 1 - f).toNat = n) : rgsE (ofW r z) t m = 0 ∧ rgsL (ofW r z) f t m = srt (tellL r (allR z f n)) := by
  obtain ⟨h1, h2, h3⟩ := word_cell h
  rw [(ofW_ok h).1]
  have hE : rgsE (wordN r z) t m = 0 := by unfold rgsE; rw [if_pos h1, if_neg (by omega), if_neg (by omega)]
  refine ⟨hE, ?_⟩
  unfold rgsL
  rw [if_pos hE, h2, h3, hn]
theorem ok_zero : okB (0 : Nat) (0, 0) = true := by decide
theorem len6 : (tellL (0 : Nat) (allR (0, 0) 1 1)).length = 6 := by decide
theorem len19 : (tellL (0 : Nat) (allR (0, 0) 0 3)).length = 19 := by decide
end Go.Proofs.YtdbfimdcaacjhaaGreat
/- Plain laws: a cell, the box of its centre, and its neighbours. -/
namespace Go.Proofs.YtdbfimdcaacjhaaGreat
open Go.RowKit Go.Lib Wd Cv

theorem near_self {R : Nat} (hR : R ≤ 12) (z : E2) : nearE (atE (12 - R) z).1 (atE (12 - R) z).2 R = z := by
  refine own_centre (m := 12 - R) (by omega) ?_
  have h := inZ_near (x := (atE (12 - R) z).1) (y := (atE (12 - R) z).2) hR
  rw [cen_at]
  exact h
theorem unit_zero (k : Nat) : ¬ (unitE k = (0, 0)) := by unfold unitE; split <;> simp
theorem at_unit {m : Nat} (hm : m ≤ 12) (z : E2) {k : Nat} (hk : k < 6) : (-20000000 ≤ (atE m (addE z (unitE k))).1 - (atE m z).1 ∧ (atE m (addE z (unitE k))).1 - (atE m z).1 ≤ 20000000) ∧ -20000000 ≤ (atE m (addE z (unitE k))).2 - (atE m z).2 ∧ (atE m (addE z (unitE k))).2 - (atE m z).2 ≤ 20000000 := by
  obtain ⟨q0, q1, q2, q3, q4, q5, q6, q7, q8, q9, q10, q11, q12⟩ := bE_tab
  have hu : (unitE k).1 = 1 ∧ (unitE k).2 = 0 ∨ (unitE k).1 = 0 ∧ (unitE k).2 = 1 ∨ (unitE k).1 = -1 ∧ (unitE k).2 = 1 ∨ (unitE k).1 = -1 ∧ (unitE k).2 = 0 ∨ (unitE k).1 = 0 ∧ (unitE k).2 = -1 ∨ (unitE k).1 = 1 ∧ (unitE k).2 = -1 := by
    rcases (show k = 0 ∨ k = 1 ∨ k = 2 ∨ k = 3 ∨ k = 4 ∨ k = 5 by omega) with rfl | rfl | rfl | rfl | rfl | rfl <;> decide
  generalize unitE k = u at *
  obtain ⟨u1, u2⟩ := u
  obtain ⟨z1, z2⟩ := z
  simp only at hu
  rcases upto12 hm with rfl | rfl | rfl | rfl | rfl | rfl | rfl | rfl | rfl | rfl | rfl | rfl | rfl <;>
    simp only [atE, spotE, mulE, addE, q0, q1, q2, q3, q4, q5, q6, q7, q8, q9, q10, q11, q12] <;> omega
/-- The neighbours of a cell whose centre is a point of the world. -/
theorem nb_all {R : Nat} (hR : R ≤ 12) {z : E2} (hz : okB R z = true) (hw : worldB (atE (12 - R) z).1 (atE (12 - R) z).2 = true) :
    rgsE (wordN R z) 1 1 = 0 ∧ (rgsL (wordN R z) 1 1 1).length = 6 ∧ ∀ x ∈ rgsL (wordN R z) 1 1 1, ∃ k, k < 6 ∧ okB R (addE z (unitE k)) = true ∧ x = (wordN R (addE z (unitE k)) : Nat) := by
  have h1 := rgs_word hz 1 1 1 1 (by omega) (by omega) (by omega)
  rw [(ofW_okF hz).1] at h1
  rw [worldB_iff] at hw
  have hm : ∀ y ∈ allR z 1 1, ∃ k, k < 6 ∧ y = addE z (unitE k) := fun y hy => by
    have hy2 : y ∈ ringL z 1 := by
      have e : allR z 1 1 = [] ++ ringL z (1 + 0) := rfl
      rw [e] at hy; simpa using hy
    have h := (ring_mem z y 1).1 hy2
    have key : ∀ k, subE y z = unitE k → y = addE z (unitE k) := fun k e => by rw [← e]; unfold addE subE; ext <;> simp only <;> omega
    unfold Hex at h
    have hs : subE y z = (1, 0) ∨ subE y z = (0, 1) ∨ subE y z = (-1, 1) ∨ subE y z = (-1, 0) ∨ subE y z = (0, -1) ∨ subE y z = (1, -1) := by
      generalize subE y z = s at *
      obtain ⟨s1, s2⟩ := s
      simp only [Prod.mk.injEq] at h ⊢
      omega
    rcases hs with e | e | e | e | e | e
    · exact ⟨0, by omega, key 0 e⟩
    · exact ⟨1, by omega, key 1 e⟩
    · exact ⟨2, by omega, key 2 e⟩
    · exact ⟨3, by omega, key 3 e⟩
    · exact ⟨4, by omega, key 4 e⟩
    · exact ⟨5, by omega, key 5 e⟩
  have hok : ∀ k, k < 6 → okB R (addE z (unitE k)) = true := fun k hk => by
    have h := near_ok (x := (atE (12 - R) z).1) (y := (atE (12 - R) z).2) hw.1 hw.2 hR (e := unitE k) (by
      rcases (show k = 0 ∨ k = 1 ∨ k = 2 ∨ k = 3 ∨ k = 4 ∨ k = 5 by omega) with rfl | rfl | rfl | rfl | rfl | rfl <;> simp [Hex, unitE])
    rwa [near_self hR] at h
  have hall : ∀ y ∈ allR z 1 1, okB R y = true := fun y hy => by
    obtain ⟨k, hk, rfl⟩ := hm y hy
    exact hok k hk
  refine ⟨h1.1, ?_, fun x hx => ?_⟩
  · rw [h1.2, srt_length, tell_all hall]
    have e : allR z 1 1 = [] ++ ringL z (1 + 0) := rfl
    rw [e]
    rfl
  · rw [h1.2, srt_mem] at hx
    unfold tellL at hx
    obtain ⟨y, hy, rfl⟩ := List.mem_map.1 hx
    obtain ⟨k, hk, rfl⟩ := hm y (List.mem_filter.1 hy).1
    exact ⟨k, hk, hok k hk, by rw [Int.toNat_natCast]⟩
/-- The box of a centre. -/
theorem box_self {R : Nat} (hR : R ≤ 12) {z : E2} (hz : okB R z = true) {L : List Int} (h : IsBox R (atE (12 - R) z) (atE (12 - R) z) L) : L = [((wordN R z : Nat) : Int)] := by
  refine h.1.ext (by unfold Up; simp) fun x => ?_
  rw [h.2.1, List.mem_singleton]
  constructor
  · rintro ⟨y, y1, y2, rfl⟩
    have h2 := touch_point (m := 12 - R) (by omega) y2
    have h3 : y = z := own_centre (m := 12 - R) (by omega) (by rw [cen_at]; exact h2)
    rw [h3]
  · rintro rfl
    exact ⟨z, hz, cen_touch (by omega) ((inB_iff _ _ _).2 ⟨Int.le_refl _, Int.le_refl _, Int.le_refl _, Int.le_refl _⟩), rfl⟩
theorem cen_self {R : Nat} (hR : R ≤ 12) {z : E2} (hz : okB R z = true) {L : List Int} (h : IsCen R (atE (12 - R) z) (atE (12 - R) z) L) : L = [((wordN R z : Nat) : Int)] := by
  refine h.1.ext (by unfold Up; simp) fun x => ?_
  rw [h.2.1, List.mem_singleton]
  constructor
  · rintro ⟨y, y1, y2, rfl⟩
    have h2 := (inB_iff _ _ _).1 y2
    have h3 : y = z := at_inj (m := 12 - R) (by omega) (by ext <;> omega)
    rw [h3]
  · rintro rfl
    exact ⟨z, hz, (inB_iff _ _ _).2 ⟨Int.le_refl _, Int.le_refl _, Int.le_refl _, Int.le_refl _⟩, rfl⟩
theorem ct_cen {R : Nat} {z lo hi : E2} (hz : okB R z = true) (hb : bxOk lo hi = true) (h : inB lo hi (atE (12 - R) z) = true) : ctB R z lo hi = true := (ct_iff R z lo hi).2 ⟨hb, hz, cen_touch (by omega) h⟩
theorem ct_beside {R : Nat} (hR : R ≤ 12) (z : E2) {k : Nat} : ctB R z (atE (12 - R) (addE z (unitE k))) (atE (12 - R) (addE z (unitE k))) = false := by
  refine Bool.eq_false_iff.2 fun h => ?_
  have h2 := ((ct_iff R z _ _).1 h).2.2
  have h3 := touch_point (m := 12 - R) (by omega) h2
  have h4 : z = addE z (unitE k) := own_centre (m := 12 - R) (by omega) (by rw [cen_at]; exact h3)
  refine unit_zero k ?_
  unfold addE at h4
  have e1 := congrArg Prod.fst h4
  have e2 := congrArg Prod.snd h4
  simp only at e1 e2
  ext <;> simp only <;> omega
end Go.Proofs.YtdbfimdcaacjhaaGreat
/- Contracts of the reference's World (any numbers) and BoxMay. -/
namespace Go.Proofs.YtdbfimdcaacjhaaGreat
open Go.RowKit Go.Lib Wd

theorem rworld_any (x y : Int) (w : World) : Calls Tryz.prog 30 #[.int .i64 x, .int .i64 y] w fun e w' => e = .returned (.bool (worldB x y)) ∧ w' = w := by
  have HF : Hid (worldB x y = (decide (0 ≤ x) && decide (x < 1073741824) && (decide (0 ≤ y) && decide (y < 1073741824)))) := rfl
  obtain ⟨b, hb⟩ : ∃ b, worldB x y = b := ⟨_, rfl⟩
  rw [hb] at HF ⊢
  clear hb
  obtain ⟨b0, h0⟩ : ∃ b, decide (0 ≤ x) = b := ⟨_, rfl⟩
  obtain ⟨b1, h1⟩ : ∃ b, decide (x < 1073741824) = b := ⟨_, rfl⟩
  obtain ⟨b2, h2⟩ : ∃ b, decide (0 ≤ y) = b := ⟨_, rfl⟩
  obtain ⟨b3, h3⟩ : ∃ b, decide (y < 1073741824) = b := ⟨_, rfl⟩
  rw [h0, h1, h2, h3] at HF
  cases b0 <;> cases b1 <;> cases b2 <;> cases b3
  all_goals
    go_enter Tryz.func30, Tryz.ntmps30
    go_wp2
    go_ret
    exact ⟨ret_bool (by rw [HF.out]; rfl), rfl⟩
set_option maxRecDepth 100000 in
set_option maxHeartbeats 4000000 in
theorem bmay_any (lo hi : E2) (r : Int) (w : World) : Calls Tryz.prog 25 #[vE lo, vE hi, .int .i64 r] w fun e w' => e = .returned (.int .i64 (chE lo hi r)) ∧ Below w.heap.size w w' := by
  obtain ⟨l1, l2⟩ := lo
  obtain ⟨h1, h2⟩ := hi
  have HX : Hid (chE (l1, l2) (h1, h2) r = if r < 0 ∨ 12 < r then 1 else if worldB l1 l2 = true ∧ worldB h1 h2 = true then (if h1 < l1 ∨ h2 < l2 then 1 else 0) else 4) := rfl
  generalize chE (l1, l2) (h1, h2) r = X at *
  have HPL := Lib.hid (fun w => rworld_any l1 l2 w)
  have HPH := Lib.hid (fun w => rworld_any h1 h2 w)
  generalize worldB l1 l2 = p at *
  generalize worldB h1 h2 = q at *
  obtain ⟨w1, hw1⟩ : ∃ W, (w.alloc (.cells #[.int .i64 l1, .int .i64 l2] 30)).alloc (.cells #[.int .i64 h1, .int .i64 h2] 30) = W := ⟨_, rfl⟩
  have hb1 : Below w.heap.size w w1 := by rw [← hw1]; exact ((Below.refl _ _).alloc (Nat.le_refl _) _).alloc (by simp) _
  have hx : w1.heap[w.heap.size]? = some (.cells #[.int .i64 l1, .int .i64 l2] 30 (0, 0)) := by
    rw [← hw1, Below.heap_alloc _ _ _ (by simp)]; exact heap_new _ _ _ rfl
  have hy : w1.heap[w.heap.size + 1]? = some (.cells #[.int .i64 h1, .int .i64 h2] 30 (0, 0)) := by rw [← hw1]; exact heap_new _ _ _ (by simp)
  have a0 : w1.cell? ⟨w.heap.size, 0, none⟩ = some (.int .i64 l1) := cell_of_row w1 _ 0 _ _ _ hx
  have a1 : w1.cell? ⟨w.heap.size, 1, none⟩ = some (.int .i64 l2) := cell_of_row w1 _ 1 _ _ _ hx
  have b0 : w1.cell? ⟨w.heap.size + 1, 0, none⟩ = some (.int .i64 h1) := cell_of_row w1 _ 0 _ _ _ hy
  have b1 : w1.cell? ⟨w.heap.size + 1, 1, none⟩ = some (.int .i64 h2) := cell_of_row w1 _ 1 _ _ _ hy
  have s0 := (Array.getElem?_eq_some_iff.1 hx).1
  have s1 := (Array.getElem?_eq_some_iff.1 hy).1
  have HW1 := Lib.hid hw1
  have HB1 := Lib.hid hb1
  clear hw1 hb1 hx hy
  simp only [vE]
  by_cases c1 : r < 0
  · have HXX : Hid (X = 1) := by show _ = _; rw [HX.out, if_pos (.inl c1)]
    clear HX
    go_enter Tryz.func25, Tryz.ntmps25
    go_upto_region 1 with (fail)
    rw [HW1.out]
    go_wp2
    go_ret
    exact ⟨by rw [HXX.out]; rfl, HB1.out⟩
  by_cases c2 : 12 < r
  · have HXX : Hid (X = 1) := by show _ = _; rw [HX.out, if_pos (.inr c2)]
    clear HX
    go_enter Tryz.func25, Tryz.ntmps25
    go_upto_region 1 with (fail)
    rw [HW1.out]
    go_wp2
    go_ret
    exact ⟨by rw [HXX.out]; rfl, HB1.out⟩
  rw [if_neg (by omega)] at HX
  cases p with
  | false =>
    have HXX : Hid (X = 4) := by show _ = _; rw [HX.out, if_neg (by simp)]
    clear HX
    go_enter Tryz.func25, Tryz.ntmps25
    go_upto_region 1 with (fail)
    rw [HW1.out]
    go_wp2_with fail
    refine (HPL.out _).mono ?_
    rintro e w2 ⟨rfl, rfl⟩
    go_wp2
    go_ret
    exact ⟨by rw [HXX.out]; rfl, HB1.out⟩
  | true =>
    cases q with
    | false =>
      have HXX : Hid (X = 4) := by show _ = _; rw [HX.out, if_neg (by simp)]
      clear HX
      go_enter Tryz.func25, Tryz.ntmps25
      go_upto_region 1 with (fail)
      rw [HW1.out]
      go_wp2_with fail
      refine (HPL.out _).mono ?_
      rintro e w2 ⟨rfl, rfl⟩
      go_wp2_with fail
      refine (HPH.out _).mono ?_
      rintro e w2 ⟨rfl, rfl⟩
      go_wp2
      go_ret
      exact ⟨by rw [HXX.out]; rfl, HB1.out⟩
    | true =>
      rw [if_pos ⟨rfl, rfl⟩] at HX
      by_cases c3 : h1 < l1
      · have HXX : Hid (X = 1) := by show _ = _; rw [HX.out, if_pos (.inl c3)]
        clear HX
        go_enter Tryz.func25, Tryz.ntmps25
        go_upto_region 1 with (fail)
        rw [HW1.out]
        go_wp2_with fail
        refine (HPL.out _).mono ?_
        rintro e w2 ⟨rfl, rfl⟩
        go_wp2_with fail
        refine (HPH.out _).mono ?_
        rintro e w2 ⟨rfl, rfl⟩
        go_wp2
        go_ret
        exact ⟨by rw [HXX.out]; rfl, HB1.out⟩
      by_cases c4 : h2 < l2
      · have HXX : Hid (X = 1) := by show _ = _; rw [HX.out, if_pos (.inr c4)]
        clear HX
        go_enter Tryz.func25, Tryz.ntmps25
        go_upto_region 1 with (fail)
        rw [HW1.out]
        go_wp2_with fail
        refine (HPL.out _).mono ?_
        rintro e w2 ⟨rfl, rfl⟩
        go_wp2_with fail
        refine (HPH.out _).mono ?_
        rintro e w2 ⟨rfl, rfl⟩
        go_wp2
        go_ret
        exact ⟨by rw [HXX.out]; rfl, HB1.out⟩
      have HXX : Hid (X = 0) := by show _ = _; rw [HX.out, if_neg (by omega)]
      clear HX
      go_enter Tryz.func25, Tryz.ntmps25
      go_upto_region 1 with (fail)
      rw [HW1.out]
      go_wp2_with fail
      refine (HPL.out _).mono ?_
      rintro e w2 ⟨rfl, rfl⟩
      go_wp2_with fail
      refine (HPH.out _).mono ?_
      rintro e w2 ⟨rfl, rfl⟩
      go_wp2
      go_ret
      exact ⟨by rw [HXX.out]; rfl, HB1.out⟩
end Go.Proofs.YtdbfimdcaacjhaaGreat
