/- Contracts of near.walker: tell, step. -/
import Derived.Test.YticbkdignmlfiaaWdI
import Derived.Test.YticbkdignmlfiaaNrU
import Derived.Maps.AppendAt
namespace Go.Proofs.Yticbkdignmlfiaa
open Go.RowKit Go.Lib Wd

/-- The words of those numbers that are cells. -/
def tellL (r : Int) (L : List E2) : List Int := (L.filter fun z => okB r z).map fun z => (wordN r.toNat z : Int)
theorem tellL_app (r : Int) (L M : List E2) : tellL r (L ++ M) = tellL r L ++ tellL r M := by unfold tellL; rw [List.filter_append, List.map_append]
theorem tellL_one (r : Int) (z : E2) : tellL r [z] = if okB r z = true then [(ofW r z : Int)] else [] := by
  unfold tellL ofW
  by_cases h : okB r z = true <;> simp [h]
/-- A walker's block: where it stands, and what it has told. -/
def Wkr (w : World) (g : Nat) (r : Int) (z : E2) (v : Value) (l : List Int) : Prop :=
  w.heap[g]? = some (.cells #[.int .i64 r, .int .i64 z.1, .int .i64 z.2, v] 83 (0, 0)) ∧ w.ownsRow (g + 1) 25 1 v l.length (uV l)
theorem Wkr.lt {w : World} {g : Nat} {r : Int} {z : E2} {v : Value} {l : List Int} (h : Wkr w g r z v l) : g < w.heap.size := (Array.getElem?_eq_some_iff.1 h.1).1
theorem Wkr.later {w w' : World} {g : Nat} {r : Int} {z : E2} {v : Value} {l : List Int} (h : Wkr w g r z v l) (hb : Below w.heap.size w w') : Wkr w' g r z v l := ⟨(hb.block g h.lt).trans h.1, own_later h.2 hb⟩
theorem Wkr.cells {w : World} {g : Nat} {r : Int} {z : E2} {v : Value} {l : List Int} (h : Wkr w g r z v l) : w.cell? ⟨g, 0, none⟩ = some (.int .i64 r) ∧ w.cell? ⟨g, 1, none⟩ = some (.int .i64 z.1) ∧ w.cell? ⟨g, 2, none⟩ = some (.int .i64 z.2) ∧ w.cell? ⟨g, 3, none⟩ = some v ∧ w.frozen? ⟨g, 1, none⟩ = false ∧ w.frozen? ⟨g, 2, none⟩ = false ∧ w.frozen? ⟨g, 3, none⟩ = false ∧ g < w.heap.size :=
  ⟨cell_of_row _ _ 0 _ _ _ h.1, cell_of_row _ _ 1 _ _ _ h.1, cell_of_row _ _ 2 _ _ _ h.1, cell_of_row _ _ 3 _ _ _ h.1, by simp [World.frozen?, h.1], by simp [World.frozen?, h.1], by simp [World.frozen?, h.1], h.lt⟩
theorem own_apart {w : World} {g n : Nat} {v : Value} {xs : List Value} (h : w.ownsRow (g + 1) 25 1 v n xs) : ¬ v.ownBlock = some g := fun e => by have := (h.lt g e).1; omega
theorem Wkr.move {w : World} {g : Nat} {r : Int} {z : E2} {v : Value} {l : List Int} (h : Wkr w g r z v l) (y : E2) :
    Wkr ((w.setCell ⟨g, 1, none⟩ (.int .i64 y.1)).setCell ⟨g, 2, none⟩ (.int .i64 y.2)) g r y v l ∧ Turn (fun q => q = g) w ((w.setCell ⟨g, 1, none⟩ (.int .i64 y.1)).setCell ⟨g, 2, none⟩ (.int .i64 y.2)) := by
  have ht : Turn (fun q => q = g) w ((w.setCell ⟨g, 1, none⟩ (.int .i64 y.1)).setCell ⟨g, 2, none⟩ (.int .i64 y.2)) := ((Turn.refl (fun q => q = g) w).setCell (a := ⟨g, 1, none⟩) rfl _).setCell (a := ⟨g, 2, none⟩) rfl _
  refine ⟨⟨?_, ?_⟩, ht⟩
  · rw [Sort.setCell_eq, Sort.setCell_eq]
    simp [Sort.mapBlock, Array.getElem?_modify, h.1, Sort.onCells]
  · obtain ⟨ao, c, rfl, _⟩ := own_form h.2
    exact own_turn h.2 ht fun g' o s e hg => by subst e; subst hg; exact own_apart h.2 rfl
/-- What a walker's methods may turn: its block, and its row, which may move to a new one. -/
def Fr (g : Nat) (v v' : Value) (w w' : World) : Prop := Turn (fun q => q = g ∨ v.ownBlock = some q) w w' ∧ (v'.ownBlock = v.ownBlock ∨ ∃ q, w.heap.size ≤ q ∧ v'.ownBlock = some q)
theorem Fr.refl (g : Nat) (v : Value) (w : World) : Fr g v v w w := ⟨Turn.refl _ _, .inl rfl⟩
theorem Fr.trans {g : Nat} {v v1 v2 : Value} {w w1 w2 : World} (h : Fr g v v1 w w1) (h2 : Fr g v1 v2 w1 w2) : Fr g v v2 w w2 := by
  refine ⟨h.1.trans h2.1 fun k hk hs => ?_, ?_⟩
  · rcases hs with e | e
    · exact .inl e
    · rcases h.2 with e2 | ⟨q, hq, e2⟩
      · exact .inr (e2 ▸ e)
      · rw [e2] at e; cases e; omega
  · rcases h2.2 with e | ⟨q, hq, e⟩
    · rw [e]; exact h.2
    · exact .inr ⟨q, Nat.le_trans h.1.2.2.2.1 hq, e⟩
theorem Fr.of_turn {g : Nat} {v : Value} {w w' : World} (h : Turn (fun q => q = g) w w') : Fr g v v w w' := ⟨h.mono fun _ e => .inl e, .inl rfl⟩
theorem Fr.of_below {g : Nat} {v : Value} {w w' : World} (h : Below w.heap.size w w') : Fr g v v w w' := ⟨Turn.of_below h, .inl rfl⟩
/-- A walker's step. -/
def Walked (w : World) (g : Nat) (r : Int) (y : E2) (v : Value) (l : List Int) (e : Ending) (w' : World) : Prop := e = .returned (.tuple #[]) ∧ ∃ v', Wkr w' g r y v' l ∧ Fr g v v' w w'
set_option maxRecDepth 100000 in
set_option maxHeartbeats 4000000 in
theorem tell_any (g : Nat) (r : Int) (z : E2) (v : Value) (l : List Int) (w : World) (h : Wkr w g r z v l) (hl : l.length ≤ 100000000) :
    Calls Try.prog 69 #[.pointer (some ⟨g, 0, none⟩)] w (Walked w g r z v (l ++ tellL r [z])) := by
  obtain ⟨i0, hi, hz0, hz1, hz2⟩ := info_parts info_u
  have HOF := Lib.hid (of_any r z)
  have HTL := Lib.hid (tellL_one r z)
  have HE : Hid (ofE r z = if okB r z = true then 0 else 2) := rfl
  obtain ⟨W, hW⟩ : ∃ W, ofW r z = W := ⟨_, rfl⟩
  rw [hW] at HOF HTL
  have HWX : Hid (∀ wx, Below w.heap.size w wx → Wkr wx g r z v l) := fun wx hx => h.later hx
  clear hW
  obtain ⟨z1, z2⟩ := z
  simp only [vC] at HOF
  obtain ⟨E, hE⟩ : ∃ E, ofE r (z1, z2) = E := ⟨_, rfl⟩
  rw [hE] at HOF HE
  have HPOST : Hid (∀ v' w', Wkr w' g r (z1, z2) v' (l ++ tellL r [(z1, z2)]) → Fr g v v' w w' → Walked w g r (z1, z2) v (l ++ tellL r [(z1, z2)]) (.returned (.tuple #[])) w') := fun v' w' h1 h2 => ⟨rfl, v', h1, h2⟩
  clear hE
  go_enter Try.func69, Try.ntmps69
  go_upto_region 0 with (fail)
  refine wp_region_inv (fun w w' => Below w.heap.size w w') (fun qi_ qv_ _ => qv_ = ([.pointer (some ⟨g, 0, none⟩), .pointer (some ⟨g, 0, none⟩), .pointer (some ⟨g, 0, none⟩), .int .i64 r, .pointer (some ⟨g, 0, none⟩), .pointer (some ⟨g, 0, none⟩), .pointer (some ⟨g, 1, none⟩), .agg #[.int .i64 z1, .int .i64 z2], .agg #[.int .i64 r, .int .i64 z1, .int .i64 z2], .tuple #[.int .u64 W, .int .i64 E], .tuple #[.int .u64 W, .int .i64 E], .int .u64 W, .int .i64 E, .int .u64 W, .int .i64 E] : List Value).getD qi_ undef) (by kernel_rfl) (by kernel_rfl) (fun _ => Below.refl _ _) (fun _ _ _ h1 h2 => below_later h1 h1.size h2) (fun _ _ _ _ _ _ h => h) ?_
  refine inv_cons (fun wx hg hd => ?_) (fun v0 => ?_)
  · have hx := ((Below.refl w.heap.size w).drew).trans hg
    clear hd hg
    go_wp2
    exact ⟨_, rfl, Below.refl _ _, rfl⟩
  (try simp only [List.nil_append, Act.put, List.setIfInBounds_toArray, List.set_cons_zero, List.set_cons_succ])
  refine inv_cons (fun wx hg hd => ?_) (fun v1 => ?_)
  · have hx := ((Below.refl w.heap.size w).drew).trans hg
    (try (have ee : v0 = (.pointer (some ⟨g, 0, none⟩) : Value) := hd 0 (by simp) (by decide); subst ee))
    clear hd hg
    go_wp2
    exact ⟨_, rfl, Below.refl _ _, rfl⟩
  (try simp only [List.cons_append, List.nil_append, Act.put, List.setIfInBounds_toArray, List.set_cons_zero, List.set_cons_succ])
  refine inv_cons (fun wx hg hd => ?_) (fun v2 => ?_)
  · have hx := ((Below.refl w.heap.size w).drew).trans hg
    (try (have ee : v1 = (.pointer (some ⟨g, 0, none⟩) : Value) := hd 1 (by simp) (by decide); subst ee))
    clear hd hg
    go_wp2
    exact ⟨_, rfl, Below.refl _ _, rfl⟩
  (try simp only [List.cons_append, List.nil_append, Act.put, List.setIfInBounds_toArray, List.set_cons_zero, List.set_cons_succ])
  refine inv_cons (fun wx hg hd => ?_) (fun v3 => ?_)
  · have hx := ((Below.refl w.heap.size w).drew).trans hg
    (try (have ee : v2 = (.pointer (some ⟨g, 0, none⟩) : Value) := hd 2 (by simp) (by decide); subst ee))
    clear hd hg
    obtain ⟨c0, c1, c2, c3, _⟩ := (HWX.out _ hx).cells
    go_wp2
    exact ⟨_, rfl, Below.refl _ _, rfl⟩
  (try simp only [List.cons_append, List.nil_append, Act.put, List.setIfInBounds_toArray, List.set_cons_zero, List.set_cons_succ])
  refine inv_cons (fun wx hg hd => ?_) (fun v4 => ?_)
  · have hx := ((Below.refl w.heap.size w).drew).trans hg
    clear hd hg
    go_wp2
    exact ⟨_, rfl, Below.refl _ _, rfl⟩
  (try simp only [List.cons_append, List.nil_append, Act.put, List.setIfInBounds_toArray, List.set_cons_zero, List.set_cons_succ])
  refine inv_cons (fun wx hg hd => ?_) (fun v5 => ?_)
  · have hx := ((Below.refl w.heap.size w).drew).trans hg
    (try (have ee : v4 = (.pointer (some ⟨g, 0, none⟩) : Value) := hd 4 (by simp) (by decide); subst ee))
    clear hd hg
    go_wp2
    exact ⟨_, rfl, Below.refl _ _, rfl⟩
  (try simp only [List.cons_append, List.nil_append, Act.put, List.setIfInBounds_toArray, List.set_cons_zero, List.set_cons_succ])
  refine inv_cons (fun wx hg hd => ?_) (fun v6 => ?_)
  · have hx := ((Below.refl w.heap.size w).drew).trans hg
    (try (have ee : v5 = (.pointer (some ⟨g, 0, none⟩) : Value) := hd 5 (by simp) (by decide); subst ee))
    clear hd hg
    go_wp2
    exact ⟨_, rfl, Below.refl _ _, rfl⟩
  (try simp only [List.cons_append, List.nil_append, Act.put, List.setIfInBounds_toArray, List.set_cons_zero, List.set_cons_succ])
  refine inv_cons (fun wx hg hd => ?_) (fun v7 => ?_)
  · have hx := ((Below.refl w.heap.size w).drew).trans hg
    (try (have ee : v6 = (.pointer (some ⟨g, 1, none⟩) : Value) := hd 6 (by simp) (by decide); subst ee))
    clear hd hg
    obtain ⟨c0, c1, c2, c3, _⟩ := (HWX.out _ hx).cells
    go_wp2
    exact ⟨_, rfl, Below.refl _ _, rfl⟩
  (try simp only [List.cons_append, List.nil_append, Act.put, List.setIfInBounds_toArray, List.set_cons_zero, List.set_cons_succ])
  refine inv_cons (fun wx hg hd => ?_) (fun v8 => ?_)
  · have hx := ((Below.refl w.heap.size w).drew).trans hg
    (try (have ee : v3 = (.int .i64 r : Value) := hd 3 (by simp) (by decide); subst ee))
    (try (have ee : v7 = (.agg #[.int .i64 z1, .int .i64 z2] : Value) := hd 7 (by simp) (by decide); subst ee))
    clear hd hg
    go_wp2
    exact ⟨_, rfl, Below.refl _ _, rfl⟩
  (try simp only [List.cons_append, List.nil_append, Act.put, List.setIfInBounds_toArray, List.set_cons_zero, List.set_cons_succ])
  refine inv_cons (fun wx hg hd => ?_) (fun v9 => ?_)
  · have hx := ((Below.refl w.heap.size w).drew).trans hg
    (try (have ee : v8 = (.agg #[.int .i64 r, .int .i64 z1, .int .i64 z2] : Value) := hd 8 (by simp) (by decide); subst ee))
    clear hd hg
    go_wp2_with fail
    refine (HOF.out _).mono ?_
    rintro e w' ⟨rfl, hb⟩
    go_wp2
    exact ⟨_, rfl, hb, rfl⟩
  (try simp only [List.cons_append, List.nil_append, Act.put, List.setIfInBounds_toArray, List.set_cons_zero, List.set_cons_succ])
  refine inv_cons (fun wx hg hd => ?_) (fun v10 => ?_)
  · have hx := ((Below.refl w.heap.size w).drew).trans hg
    (try (have ee : v9 = (.tuple #[.int .u64 W, .int .i64 E] : Value) := hd 9 (by simp) (by decide); subst ee))
    clear hd hg
    go_wp2
    exact ⟨_, rfl, Below.refl _ _, rfl⟩
  (try simp only [List.cons_append, List.nil_append, Act.put, List.setIfInBounds_toArray, List.set_cons_zero, List.set_cons_succ])
  refine inv_cons (fun wx hg hd => ?_) (fun v11 => ?_)
  · have hx := ((Below.refl w.heap.size w).drew).trans hg
    (try (have ee : v10 = (.tuple #[.int .u64 W, .int .i64 E] : Value) := hd 10 (by simp) (by decide); subst ee))
    clear hd hg
    go_wp2
    exact ⟨_, rfl, Below.refl _ _, rfl⟩
  (try simp only [List.cons_append, List.nil_append, Act.put, List.setIfInBounds_toArray, List.set_cons_zero, List.set_cons_succ])
  refine inv_cons (fun wx hg hd => ?_) (fun v12 => ?_)
  · have hx := ((Below.refl w.heap.size w).drew).trans hg
    (try (have ee : v10 = (.tuple #[.int .u64 W, .int .i64 E] : Value) := hd 10 (by simp) (by decide); subst ee))
    clear hd hg
    go_wp2
    exact ⟨_, rfl, Below.refl _ _, rfl⟩
  (try simp only [List.cons_append, List.nil_append, Act.put, List.setIfInBounds_toArray, List.set_cons_zero, List.set_cons_succ])
  refine inv_cons (fun wx hg hd => ?_) (fun v13 => ?_)
  · have hx := ((Below.refl w.heap.size w).drew).trans hg
    (try (have ee : v11 = (.int .u64 W : Value) := hd 11 (by simp) (by decide); subst ee))
    clear hd hg
    go_wp2
    exact ⟨_, rfl, Below.refl _ _, rfl⟩
  (try simp only [List.cons_append, List.nil_append, Act.put, List.setIfInBounds_toArray, List.set_cons_zero, List.set_cons_succ])
  refine inv_cons (fun wx hg hd => ?_) (fun v14 => ?_)
  · have hx := ((Below.refl w.heap.size w).drew).trans hg
    (try (have ee : v12 = (.int .i64 E : Value) := hd 12 (by simp) (by decide); subst ee))
    clear hd hg
    go_wp2
    exact ⟨_, rfl, Below.refl _ _, rfl⟩
  (try simp only [List.cons_append, List.nil_append, Act.put, List.setIfInBounds_toArray, List.set_cons_zero, List.set_cons_succ])
  refine inv_done (fun wx hg hd => ?_)
  have hx := ((Below.refl w.heap.size w).drew).trans hg
  (have ee : v0 = (.pointer (some ⟨g, 0, none⟩) : Value) := hd 0 (by simp); subst ee)
  (have ee : v1 = (.pointer (some ⟨g, 0, none⟩) : Value) := hd 1 (by simp); subst ee)
  (have ee : v2 = (.pointer (some ⟨g, 0, none⟩) : Value) := hd 2 (by simp); subst ee)
  (have ee : v3 = (.int .i64 r : Value) := hd 3 (by simp); subst ee)
  (have ee : v4 = (.pointer (some ⟨g, 0, none⟩) : Value) := hd 4 (by simp); subst ee)
  (have ee : v5 = (.pointer (some ⟨g, 0, none⟩) : Value) := hd 5 (by simp); subst ee)
  (have ee : v6 = (.pointer (some ⟨g, 1, none⟩) : Value) := hd 6 (by simp); subst ee)
  (have ee : v7 = (.agg #[.int .i64 z1, .int .i64 z2] : Value) := hd 7 (by simp); subst ee)
  (have ee : v8 = (.agg #[.int .i64 r, .int .i64 z1, .int .i64 z2] : Value) := hd 8 (by simp); subst ee)
  (have ee : v9 = (.tuple #[.int .u64 W, .int .i64 E] : Value) := hd 9 (by simp); subst ee)
  (have ee : v10 = (.tuple #[.int .u64 W, .int .i64 E] : Value) := hd 10 (by simp); subst ee)
  (have ee : v11 = (.int .u64 W : Value) := hd 11 (by simp); subst ee)
  (have ee : v12 = (.int .i64 E : Value) := hd 12 (by simp); subst ee)
  (have ee : v13 = (.int .u64 W : Value) := hd 13 (by simp); subst ee)
  (have ee : v14 = (.int .i64 E : Value) := hd 14 (by simp); subst ee)
  clear hd hg
  (try go_simp)
  have hwk := HWX.out _ hx
  have HFR : Hid (Fr g v v w wx) := Fr.of_below hx
  by_cases hok : okB r (z1, z2) = true
  · have hE0 : E = 0 := by rw [HE.out, if_pos hok]
    have HTL2 : Hid (tellL r [(z1, z2)] = [(W : Int)]) := by show _ = _; rw [HTL.out, if_pos hok]
    subst hE0
    obtain ⟨c0, c1, c2, c3, f1, f2, f3, hgl⟩ := hwk.cells
    have hown := hwk.2
    have hgl2 : g < wx.heap.size + 1 := by omega
    have HWK := Lib.hid hwk.1
    clear hwk HWX hx HOF HTL HE hok
    have HU : Hid (uV (l ++ [(W : Int)]) = uV l ++ [.int .u64 W]) := uV_snoc l W
    have HGW : Hid (∀ w3, (wx.alloc (.cells #[.int .u64 (W : Int)] 25)).grownBy w3 v.ownBlock → w3.heap[g]? = some (.cells #[.int .i64 r, .int .i64 z1, .int .i64 z2, v] 83 (0, 0)) ∧ Turn (fun q => v.ownBlock = some q) wx w3) := fun w3 hg => by
      have hal : Below wx.heap.size wx (wx.alloc (.cells #[.int .u64 (W : Int)] 25)) := (Below.refl _ _).alloc (Nat.le_refl _) _
      have hsa := World.size_alloc wx (.cells #[.int .u64 (W : Int)] 25)
      refine ⟨(hg.block g (by omega) (fun e => own_apart hown e.symm)).trans ((hal.block g hgl).trans HWK.out), hg.os.trans hal.os, hg.tape.trans hal.tape, hg.output.trans hal.output, Nat.le_trans hal.size hg.size, fun k hk hs => (hg.block k (by omega) fun e => hs e.symm).trans (hal.block k hk)⟩
    go_upto_region 2 with (fail)
    go_wp2_with (at_builtin; refine wpList_append_own_at _ rfl (.tmp 23) (.tmp 25) 30 rfl (g + 1) 25 i0 (.int .u64 0) 1 8 Try.underlying30 hi hz0 hz1 hz2 rfl (by decide) _ _ _ rfl (hown.alloc _) ⟨wx.heap.size, 0, none⟩ 1 1 [.int .u64 W] rfl rfl (cell_one_new _ _ _) (by simp [Value.oneCell']) (by unfold maxLen; omega) (by omega) (by simp; omega) ?_; intro v' w3 ho3 hgr _ hat; obtain ⟨o3, c3, rfl, hc3, _⟩ := own_form ho3; obtain ⟨hr3, ht3⟩ := HGW.out _ hgr; have k1 : w3.cell? ⟨g, 3, none⟩ = some v := cell_of_row _ _ 3 _ _ _ hr3; have k2 : w3.frozen? ⟨g, 3, none⟩ = false := frozen_of_row _ _ _ _ _ hr3; have HR3 := Lib.hid hr3; have HT3 := Lib.hid ht3; have HO3 := Lib.hid ho3; have HA3 := Lib.hid hat; clear hr3 ht3 hgr ho3 hat)
    go_end0
    have hts : Turn (fun q => q = g) w3 (w3.setCell ⟨g, 3, none⟩ (.slice o3 (l.length + 1) c3)) := (Turn.refl (fun q => q = g) w3).setCell (a := ⟨g, 3, none⟩) rfl _
    have hat : (Value.slice o3 (l.length + 1) c3).ownBlock = v.ownBlock ∨ (Value.slice o3 (l.length + 1) c3).ownBlock = some (wx.alloc (.cells #[.int .u64 (W : Int)] 25)).heap.size := HA3.out
    have hoo : w3.ownsRow (g + 1) 25 1 (.slice o3 (l.length + 1) c3) (l.length + 1) (uV (l ++ [(W : Int)])) := by rw [HU.out]; exact HO3.out
    refine HPOST.out (.slice o3 (l.length + 1) c3) _ ⟨?_, ?_⟩ (HFR.out.trans ⟨?_, ?_⟩)
    · have hr := HR3.out
      rw [Sort.setCell_eq]
      simp [Sort.mapBlock, Array.getElem?_modify, hr, Sort.onCells]
    · rw [HTL2.out, List.length_append, List.length_singleton]
      exact own_turn hoo hts fun g' o s e hg => by subst e; subst hg; exact own_apart hoo rfl
    · exact ((HT3.out).mono (fun _ e => .inr e)).trans hts fun _ _ e => .inl e
    · rcases hat with e | e
      · exact .inl e
      · exact .inr ⟨_, by rw [World.size_alloc]; omega, e⟩
  · have hE2 : E = 2 := by rw [HE.out, if_neg hok]
    have HTL2 : Hid (tellL r [(z1, z2)] = []) := by show _ = _; rw [HTL.out, if_neg hok]
    have HF := Lib.hid (HPOST.out v wx (by rw [HTL2.out, List.append_nil]; exact hwk) HFR.out)
    subst hE2
    clear hwk HWX hx HOF HTL HE hok HPOST
    go_wp2
    go_end0
    exact HF.out
set_option maxRecDepth 100000 in
set_option maxHeartbeats 4000000 in
theorem step_any (g : Nat) (r : Int) (z : E2) (k : Nat) (v : Value) (l : List Int) (w : World) (h : Wkr w g r z v l) (hk : k < 6) (hz : Sm 1099511627776 z) :
    Calls Try.prog 70 #[.pointer (some ⟨g, 0, none⟩), .int .i64 k] w (Walked w g r (addE z (unitE k)) v l) := by
  have HUN := Lib.hid (unit_in k hk)
  have hus := left_sm (k + 1)
  have HAD := Lib.hid (add_in z (unitE k) (hz.mono (by decide)) (hus.mono (by decide)))
  have HWX : Hid (∀ wx, Below w.heap.size w wx → Wkr wx g r z v l) := fun wx hx => h.later hx
  obtain ⟨y, hy⟩ : ∃ y, addE z (unitE k) = y := ⟨_, rfl⟩
  rw [hy] at HAD
  have HY := Lib.hid hy
  simp only [vE] at HUN HAD
  generalize unitE k = u at *
  clear hy hz hus h
  obtain ⟨z1, z2⟩ := z
  go_enter Try.func70, Try.ntmps70
  go_upto_region 0 with (fail)
  have HMV : Hid (∀ wx, Below w.heap.size w wx → Walked w g r y v l (.returned (.tuple #[])) ((wx.setCell ⟨g, 1, none⟩ (.int .i64 y.1)).setCell ⟨g, 2, none⟩ (.int .i64 y.2))) := fun wx hx => by
    have hm := (HWX.out wx hx).move y
    exact ⟨rfl, v, hm.1, (Fr.of_below hx).trans (Fr.of_turn hm.2)⟩
  rw [HY.out]
  have HB0 : Hid (Below w.heap.size w w) := Below.refl _ _
  obtain ⟨c0, c1, c2, c3, f1, f2, f3, hgl⟩ := (HWX.out w HB0.out).cells
  go_region_with (first
    | (go_at_call 68; refine (HUN.out _).mono ?_; rintro e w7 ⟨rfl, hb7⟩; have HB7 : Hid (Below w.heap.size w w7) := ((Below.refl w.heap.size w).drew).trans hb7; clear hb7; obtain ⟨d0, d1, d2, d3, d4, d5, d6, d7⟩ := (HWX.out w7 HB7.out).cells)
    | (go_at_call 67; refine (HAD.out _).mono ?_; rintro e w8 ⟨rfl, hb8⟩; have HB8 : Hid (Below w.heap.size w w8) := HB7.out.trans (hb8.mono HB7.out.size); clear hb8; obtain ⟨e0, e1, e2, e3, e4, e5, e6, e7⟩ := (HWX.out w8 HB8.out).cells))
  all_goals
    go_wp2
    go_end0
    exact HMV.out _ HB8.out
end Go.Proofs.Yticbkdignmlfiaa
