/- Joined: NsO, NtO: contracts and plain laws, each with its own heading below. -/
import Derived.Test.YtpkoapmpknbgoaaGreatPackBL
import Derived.Test.YtpkoapmpknbgoaaGreatPackBC
set_option maxRecDepth 100000
set_option maxHeartbeats 8000000
namespace Go.Proofs.YtpkoapmpknbgoaaGreat
section
open Go.RowKit Go.Lib Wd
theorem beside_own (r : Int) (z : E2) (ao : Option Addr) (c : Nat) (L : List E2) (w : World) (h : EAt w ao L) (hz : Sm 1073741824 z) (hL : ∀ y ∈ L, Sm 1000 y) (hn : L.length <= 5000000) :
  Calls Tryz.prog 52 #[vC r z, .slice ao L.length c] w (JoinedO w (besL r z L)) := by
 obtain ⟨i0, hi, hz0, hz1, hz2⟩ := info_parts info_u;have HE := Lib.hid h;have HS := Lib.hid hL;have HT1 := Lib.hid (tellL_app r);have HT2 := Lib.hid (tellL_one r);have HOF := Lib.hid (word_any r);have HOE : Hid (∀ z, ofE r z = if okB r z = true then 0 else 2) := fun z => rfl
 have HBL : Hid (besL r z L = setF (tellL r (L.map (addE z)))) := rfl;have HMT : Hid (∀ k, k < L.length -> (L.take (k + 1)).map (addE z) = (L.take k).map (addE z) ++ [((z.1 + (eg L k).1), (z.2 + (eg L k).2))]) := fun k hk => by rw [take_e L hk, List.map_append]; rfl
 have HEM : Hid (∀ k, k < L.length -> Sm 1000 (eg L k)) := fun k hk => hL _ (by unfold eg; rw [List.getD_eq_getElem?_getD, List.getElem?_eq_getElem hk]; exact List.getElem_mem hk)
 obtain ⟨n, hnn⟩ : ∃ n, L.length = n := ⟨_, rfl⟩;have HN := Lib.hid hnn;have HTL : Hid (∀ k, n <= k -> L.take k = L) := fun k hk => List.take_of_length_le (by rw [hnn]; exact hk)
 rw [hnn] at hn HMT HEM ⊢;unfold Sm at hz;obtain ⟨z1, z2, z3, z4⟩ := hz;have HTR : Hid (Tri (w.alloc (.cells #[.int .i64 r, .int .i64 z.1, .int .i64 z.2] 39)) w.heap.size r z) := heap_new _ _ _ rfl;have HAL : Hid (Below w.heap.size w (w.alloc (.cells #[.int .i64 r, .int .i64 z.1, .int .i64 z.2] 39))) := (Below.refl _ _).alloc (Nat.le_refl _) _;clear hnn h hL;simp only [vC] at *
 go_enter Tryz.func52, Tryz.ntmps52
 go_upto_region 1 with (fail)
 generalize w.alloc (.cells #[.int .i64 r, .int .i64 z.1, .int .i64 z.2] 39) = w2 at *;have HE2 := Lib.hid (HE.out.below HAL.out);have hw2 := HTR.out.lt;go_wp2
 go_loopw [5, 6] (fun sl i wr => ∃ (k m : Nat) (bo : Option Addr) (d : Nat), k <= n /\ i = .int .i64 k /\ m <= k /\ sl = .slice bo m d /\ Hid ((tellL r ((L.take k).map (addE z))).length = m) /\ Hid (wr.ownsRow w2.heap.size 35 1 (.slice bo m d) m (uV (tellL r ((L.take k).map (addE z)))) /\ Below w2.heap.size w2 wr)) (fun _ i _ => n - (intOf i).toNat)
 case atStart => exact ⟨0, 0, _, _, by omega, rfl, by omega, rfl, rfl, World.ownsRow_nil _ _ _ _, Below.refl _ _⟩
 case round =>
  obtain ⟨k, m, bo, d, hk, rfl, hmk, rfl, HLEN, HI⟩ := hrel;by_cases hlt : k < n
  ·obtain ⟨g, off, rfl, hg, hc⟩ := (HE2.out.below HI.out.2) (by rw [HN.out]; omega)
   obtain ⟨c0, c1⟩ := hc k (by rw [HN.out]; exact hlt);have hy := HEM.out k hlt;have HMK := Lib.hid (HMT.out k hlt);generalize eg L k = y at *;unfold Sm at hy;obtain ⟨y1, y2, y3, y4⟩ := hy;have HTX := Lib.hid (HTR.out.later HI.out.2);have HCX : Hid (∀ wx, Below wr.heap.size wr wx -> Tri wx w.heap.size r z /\ wx.cell? ⟨g, off + k * 2, none⟩ = some (.int .i64 y.1) /\ wx.cell? ⟨g, off + k * 2 + 1, none⟩ = some (.int .i64 y.2)) := fun wx hx => ⟨HTX.out.later hx, (hx.cell (p := ⟨g, _, none⟩) hg).trans c0, (hx.cell (p := ⟨g, _, none⟩) hg).trans c1⟩
   obtain ⟨t0, t1, t2, t3, t4, t5, t6⟩ := HTX.out.cells;have HW := Lib.hid (HOF.out (z.1 + y.1, z.2 + y.2));have HT2z := Lib.hid (HT2.out (z.1 + y.1, z.2 + y.2));have HOEz := Lib.hid (HOE.out (z.1 + y.1, z.2 + y.2));clear hc
   go_upto_region 5 with (fail)
   clear c0 c1 t0 t1 t2 t3 t4 t5 HTX;obtain ⟨v, hv⟩ : ∃ v, ofW r (z.1 + y.1, z.2 + y.2) = v := ⟨_, rfl⟩;obtain ⟨ev, hev⟩ : ∃ v, ofE r (z.1 + y.1, z.2 + y.2) = v := ⟨_, rfl⟩;rw [hv] at HW HT2z;rw [hev] at HW HOEz;clear hv hev;simp only at HW;refine wp_region_inv (fun w w' => Below w.heap.size w w') (fun qi_ qv_ _ => qv_ = ([.pointer (some ⟨w.heap.size, 0, none⟩), .int .i64 r, .pointer (some ⟨w.heap.size, 1, none⟩), .pointer (some ⟨w.heap.size, 1, none⟩), .int .i64 z.1, .slice (some ⟨g, off, none⟩) n c, .int .i64 k, .pointer (some ⟨g, off + k * 2, none⟩), .pointer (some ⟨g, off + k * 2, none⟩), .int .i64 y.1, .int .i64 (z.1 + y.1), .pointer (some ⟨w.heap.size, 1, none⟩), .pointer (some ⟨w.heap.size, 2, none⟩), .int .i64 z.2, .slice (some ⟨g, off, none⟩) n c, .int .i64 k, .pointer (some ⟨g, off + k * 2, none⟩), .pointer (some ⟨g, off + k * 2 + 1, none⟩), .int .i64 y.2, .int .i64 (z.2 + y.2), .agg #[.int .i64 (z.1 + y.1), .int .i64 (z.2 + y.2)], .agg #[.int .i64 r, .int .i64 (z.1 + y.1), .int .i64 (z.2 + y.2)], .tuple #[.int .u64 v, .int .i64 ev], .tuple #[.int .u64 v, .int .i64 ev], .int .u64 v, .int .i64 ev, .int .u64 v, .int .i64 ev] : List Value).getD qi_ undef) (by kernel_rfl) (by kernel_rfl) (fun _ => Below.refl _ _) (fun _ _ _ h1 h2 => below_later h1 h1.size h2) (fun _ _ _ _ _ _ h => h) ?_;refine inv_cons (fun wx hg hd => ?_) (fun v0 => ?_)
   ·have hx := ((Below.refl wr.heap.size wr).drew).trans hg
    clear hd hg;go_wp2;exact ⟨_, rfl, Below.refl _ _, rfl⟩
   (try simp only [List.nil_append, Act.put, List.setIfInBounds_toArray, List.set_cons_zero, List.set_cons_succ])
   refine inv_cons (fun wx hg hd => ?_) (fun v1 => ?_)
   ·have hx := ((Below.refl wr.heap.size wr).drew).trans hg
    (try (have ee : v0 = (.pointer (some ⟨w.heap.size, 0, none⟩) : Value) := hd 0 (by simp) (by decide); subst ee))
    clear hd hg;obtain ⟨k0, k1, k2⟩ := HCX.out _ hx;obtain ⟨t0, t1, t2, t3, t4, t5, t6⟩ := k0.cells;clear k0;go_wp2;exact ⟨_, rfl, Below.refl _ _, rfl⟩
   (try simp only [List.cons_append, List.nil_append, Act.put, List.setIfInBounds_toArray, List.set_cons_zero, List.set_cons_succ])
   refine inv_cons (fun wx hg hd => ?_) (fun v2 => ?_)
   ·have hx := ((Below.refl wr.heap.size wr).drew).trans hg
    clear hd hg;go_wp2;exact ⟨_, rfl, Below.refl _ _, rfl⟩
   (try simp only [List.cons_append, List.nil_append, Act.put, List.setIfInBounds_toArray, List.set_cons_zero, List.set_cons_succ])
   refine inv_cons (fun wx hg hd => ?_) (fun v3 => ?_)
   ·have hx := ((Below.refl wr.heap.size wr).drew).trans hg
    (try (have ee : v2 = (.pointer (some ⟨w.heap.size, 1, none⟩) : Value) := hd 2 (by simp) (by decide); subst ee))
    clear hd hg;go_wp2;exact ⟨_, rfl, Below.refl _ _, rfl⟩
   (try simp only [List.cons_append, List.nil_append, Act.put, List.setIfInBounds_toArray, List.set_cons_zero, List.set_cons_succ])
   refine inv_cons (fun wx hg hd => ?_) (fun v4 => ?_)
   ·have hx := ((Below.refl wr.heap.size wr).drew).trans hg
    (try (have ee : v3 = (.pointer (some ⟨w.heap.size, 1, none⟩) : Value) := hd 3 (by simp) (by decide); subst ee))
    clear hd hg;obtain ⟨k0, k1, k2⟩ := HCX.out _ hx;obtain ⟨t0, t1, t2, t3, t4, t5, t6⟩ := k0.cells;clear k0;go_wp2;exact ⟨_, rfl, Below.refl _ _, rfl⟩
   (try simp only [List.cons_append, List.nil_append, Act.put, List.setIfInBounds_toArray, List.set_cons_zero, List.set_cons_succ])
   refine inv_cons (fun wx hg hd => ?_) (fun v5 => ?_)
   ·have hx := ((Below.refl wr.heap.size wr).drew).trans hg
    clear hd hg;go_wp2;exact ⟨_, rfl, Below.refl _ _, rfl⟩
   (try simp only [List.cons_append, List.nil_append, Act.put, List.setIfInBounds_toArray, List.set_cons_zero, List.set_cons_succ])
   refine inv_cons (fun wx hg hd => ?_) (fun v6 => ?_)
   ·have hx := ((Below.refl wr.heap.size wr).drew).trans hg
    clear hd hg;go_wp2;exact ⟨_, rfl, Below.refl _ _, rfl⟩
   (try simp only [List.cons_append, List.nil_append, Act.put, List.setIfInBounds_toArray, List.set_cons_zero, List.set_cons_succ])
   refine inv_cons (fun wx hg hd => ?_) (fun v7 => ?_)
   ·have hx := ((Below.refl wr.heap.size wr).drew).trans hg
    (try (have ee : v5 = (.slice (some ⟨g, off, none⟩) n c : Value) := hd 5 (by simp) (by decide); subst ee))
    (try (have ee : v6 = (.int .i64 k : Value) := hd 6 (by simp) (by decide); subst ee))
    clear hd hg;go_wp2;exact ⟨_, rfl, Below.refl _ _, rfl⟩
   (try simp only [List.cons_append, List.nil_append, Act.put, List.setIfInBounds_toArray, List.set_cons_zero, List.set_cons_succ])
   refine inv_cons (fun wx hg hd => ?_) (fun v8 => ?_)
   ·have hx := ((Below.refl wr.heap.size wr).drew).trans hg
    (try (have ee : v7 = (.pointer (some ⟨g, off + k * 2, none⟩) : Value) := hd 7 (by simp) (by decide); subst ee))
    clear hd hg;go_wp2;exact ⟨_, rfl, Below.refl _ _, rfl⟩
   (try simp only [List.cons_append, List.nil_append, Act.put, List.setIfInBounds_toArray, List.set_cons_zero, List.set_cons_succ])
   refine inv_cons (fun wx hg hd => ?_) (fun v9 => ?_)
   ·have hx := ((Below.refl wr.heap.size wr).drew).trans hg
    (try (have ee : v8 = (.pointer (some ⟨g, off + k * 2, none⟩) : Value) := hd 8 (by simp) (by decide); subst ee))
    clear hd hg;obtain ⟨k0, k1, k2⟩ := HCX.out _ hx;clear k0;go_wp2;exact ⟨_, rfl, Below.refl _ _, rfl⟩
   (try simp only [List.cons_append, List.nil_append, Act.put, List.setIfInBounds_toArray, List.set_cons_zero, List.set_cons_succ])
   refine inv_cons (fun wx hg hd => ?_) (fun v10 => ?_)
   ·have hx := ((Below.refl wr.heap.size wr).drew).trans hg
    (try (have ee : v4 = (.int .i64 z.1 : Value) := hd 4 (by simp) (by decide); subst ee))
    (try (have ee : v9 = (.int .i64 y.1 : Value) := hd 9 (by simp) (by decide); subst ee))
    clear hd hg;go_wp2;exact ⟨_, rfl, Below.refl _ _, rfl⟩
   (try simp only [List.cons_append, List.nil_append, Act.put, List.setIfInBounds_toArray, List.set_cons_zero, List.set_cons_succ])
   refine inv_cons (fun wx hg hd => ?_) (fun v11 => ?_)
   ·have hx := ((Below.refl wr.heap.size wr).drew).trans hg
    clear hd hg;go_wp2;exact ⟨_, rfl, Below.refl _ _, rfl⟩
   (try simp only [List.cons_append, List.nil_append, Act.put, List.setIfInBounds_toArray, List.set_cons_zero, List.set_cons_succ])
   refine inv_cons (fun wx hg hd => ?_) (fun v12 => ?_)
   ·have hx := ((Below.refl wr.heap.size wr).drew).trans hg
    (try (have ee : v11 = (.pointer (some ⟨w.heap.size, 1, none⟩) : Value) := hd 11 (by simp) (by decide); subst ee))
    clear hd hg;go_wp2;exact ⟨_, rfl, Below.refl _ _, rfl⟩
   (try simp only [List.cons_append, List.nil_append, Act.put, List.setIfInBounds_toArray, List.set_cons_zero, List.set_cons_succ])
   refine inv_cons (fun wx hg hd => ?_) (fun v13 => ?_)
   ·have hx := ((Below.refl wr.heap.size wr).drew).trans hg
    (try (have ee : v12 = (.pointer (some ⟨w.heap.size, 2, none⟩) : Value) := hd 12 (by simp) (by decide); subst ee))
    clear hd hg;obtain ⟨k0, k1, k2⟩ := HCX.out _ hx;obtain ⟨t0, t1, t2, t3, t4, t5, t6⟩ := k0.cells;clear k0;go_wp2;exact ⟨_, rfl, Below.refl _ _, rfl⟩
   (try simp only [List.cons_append, List.nil_append, Act.put, List.setIfInBounds_toArray, List.set_cons_zero, List.set_cons_succ])
   refine inv_cons (fun wx hg hd => ?_) (fun v14 => ?_)
   ·have hx := ((Below.refl wr.heap.size wr).drew).trans hg
    clear hd hg;go_wp2;exact ⟨_, rfl, Below.refl _ _, rfl⟩
   (try simp only [List.cons_append, List.nil_append, Act.put, List.setIfInBounds_toArray, List.set_cons_zero, List.set_cons_succ])
   refine inv_cons (fun wx hg hd => ?_) (fun v15 => ?_)
   ·have hx := ((Below.refl wr.heap.size wr).drew).trans hg
    clear hd hg;go_wp2;exact ⟨_, rfl, Below.refl _ _, rfl⟩
   (try simp only [List.cons_append, List.nil_append, Act.put, List.setIfInBounds_toArray, List.set_cons_zero, List.set_cons_succ])
   refine inv_cons (fun wx hg hd => ?_) (fun v16 => ?_)
   ·have hx := ((Below.refl wr.heap.size wr).drew).trans hg
    (try (have ee : v14 = (.slice (some ⟨g, off, none⟩) n c : Value) := hd 14 (by simp) (by decide); subst ee))
    (try (have ee : v15 = (.int .i64 k : Value) := hd 15 (by simp) (by decide); subst ee))
    clear hd hg;go_wp2;exact ⟨_, rfl, Below.refl _ _, rfl⟩
   (try simp only [List.cons_append, List.nil_append, Act.put, List.setIfInBounds_toArray, List.set_cons_zero, List.set_cons_succ])
   refine inv_cons (fun wx hg hd => ?_) (fun v17 => ?_)
   ·have hx := ((Below.refl wr.heap.size wr).drew).trans hg
    (try (have ee : v16 = (.pointer (some ⟨g, off + k * 2, none⟩) : Value) := hd 16 (by simp) (by decide); subst ee))
    clear hd hg;go_wp2;exact ⟨_, rfl, Below.refl _ _, rfl⟩
   (try simp only [List.cons_append, List.nil_append, Act.put, List.setIfInBounds_toArray, List.set_cons_zero, List.set_cons_succ])
   refine inv_cons (fun wx hg hd => ?_) (fun v18 => ?_)
   ·have hx := ((Below.refl wr.heap.size wr).drew).trans hg
    (try (have ee : v17 = (.pointer (some ⟨g, off + k * 2 + 1, none⟩) : Value) := hd 17 (by simp) (by decide); subst ee))
    clear hd hg;obtain ⟨k0, k1, k2⟩ := HCX.out _ hx;clear k0;go_wp2;exact ⟨_, rfl, Below.refl _ _, rfl⟩
   (try simp only [List.cons_append, List.nil_append, Act.put, List.setIfInBounds_toArray, List.set_cons_zero, List.set_cons_succ])
   refine inv_cons (fun wx hg hd => ?_) (fun v19 => ?_)
   ·have hx := ((Below.refl wr.heap.size wr).drew).trans hg
    (try (have ee : v13 = (.int .i64 z.2 : Value) := hd 13 (by simp) (by decide); subst ee))
    (try (have ee : v18 = (.int .i64 y.2 : Value) := hd 18 (by simp) (by decide); subst ee))
    clear hd hg;go_wp2;exact ⟨_, rfl, Below.refl _ _, rfl⟩
   (try simp only [List.cons_append, List.nil_append, Act.put, List.setIfInBounds_toArray, List.set_cons_zero, List.set_cons_succ])
   refine inv_cons (fun wx hg hd => ?_) (fun v20 => ?_)
   ·have hx := ((Below.refl wr.heap.size wr).drew).trans hg
    (try (have ee : v10 = (.int .i64 (z.1 + y.1) : Value) := hd 10 (by simp) (by decide); subst ee))
    (try (have ee : v19 = (.int .i64 (z.2 + y.2) : Value) := hd 19 (by simp) (by decide); subst ee))
    clear hd hg;go_wp2;exact ⟨_, rfl, Below.refl _ _, rfl⟩
   (try simp only [List.cons_append, List.nil_append, Act.put, List.setIfInBounds_toArray, List.set_cons_zero, List.set_cons_succ])
   refine inv_cons (fun wx hg hd => ?_) (fun v21 => ?_)
   ·have hx := ((Below.refl wr.heap.size wr).drew).trans hg
    (try (have ee : v1 = (.int .i64 r : Value) := hd 1 (by simp) (by decide); subst ee))
    (try (have ee : v20 = (.agg #[.int .i64 (z.1 + y.1), .int .i64 (z.2 + y.2)] : Value) := hd 20 (by simp) (by decide); subst ee))
    clear hd hg;go_wp2;exact ⟨_, rfl, Below.refl _ _, rfl⟩
   (try simp only [List.cons_append, List.nil_append, Act.put, List.setIfInBounds_toArray, List.set_cons_zero, List.set_cons_succ])
   refine inv_cons (fun wx hg hd => ?_) (fun v22 => ?_)
   ·have hx := ((Below.refl wr.heap.size wr).drew).trans hg
    (try (have ee : v21 = (.agg #[.int .i64 r, .int .i64 (z.1 + y.1), .int .i64 (z.2 + y.2)] : Value) := hd 21 (by simp) (by decide); subst ee))
    clear hd hg
    go_wp2_with fail
    refine (HW.out _).mono ?_;rintro e w' ⟨rfl, hb⟩;go_wp2;exact ⟨_, rfl, hb, rfl⟩
   (try simp only [List.cons_append, List.nil_append, Act.put, List.setIfInBounds_toArray, List.set_cons_zero, List.set_cons_succ])
   refine inv_cons (fun wx hg hd => ?_) (fun v23 => ?_)
   ·have hx := ((Below.refl wr.heap.size wr).drew).trans hg
    (try (have ee : v22 = (.tuple #[.int .u64 v, .int .i64 ev] : Value) := hd 22 (by simp) (by decide); subst ee))
    clear hd hg;go_wp2;exact ⟨_, rfl, Below.refl _ _, rfl⟩
   (try simp only [List.cons_append, List.nil_append, Act.put, List.setIfInBounds_toArray, List.set_cons_zero, List.set_cons_succ])
   refine inv_cons (fun wx hg hd => ?_) (fun v24 => ?_)
   ·have hx := ((Below.refl wr.heap.size wr).drew).trans hg
    (try (have ee : v23 = (.tuple #[.int .u64 v, .int .i64 ev] : Value) := hd 23 (by simp) (by decide); subst ee))
    clear hd hg;go_wp2;exact ⟨_, rfl, Below.refl _ _, rfl⟩
   (try simp only [List.cons_append, List.nil_append, Act.put, List.setIfInBounds_toArray, List.set_cons_zero, List.set_cons_succ])
   refine inv_cons (fun wx hg hd => ?_) (fun v25 => ?_)
   ·have hx := ((Below.refl wr.heap.size wr).drew).trans hg
    (try (have ee : v23 = (.tuple #[.int .u64 v, .int .i64 ev] : Value) := hd 23 (by simp) (by decide); subst ee))
    clear hd hg;go_wp2;exact ⟨_, rfl, Below.refl _ _, rfl⟩
   (try simp only [List.cons_append, List.nil_append, Act.put, List.setIfInBounds_toArray, List.set_cons_zero, List.set_cons_succ])
   refine inv_cons (fun wx hg hd => ?_) (fun v26 => ?_)
   ·have hx := ((Below.refl wr.heap.size wr).drew).trans hg
    (try (have ee : v24 = (.int .u64 v : Value) := hd 24 (by simp) (by decide); subst ee))
    clear hd hg;go_wp2;exact ⟨_, rfl, Below.refl _ _, rfl⟩
   (try simp only [List.cons_append, List.nil_append, Act.put, List.setIfInBounds_toArray, List.set_cons_zero, List.set_cons_succ])
   refine inv_cons (fun wx hg hd => ?_) (fun v27 => ?_)
   ·have hx := ((Below.refl wr.heap.size wr).drew).trans hg
    (try (have ee : v25 = (.int .i64 ev : Value) := hd 25 (by simp) (by decide); subst ee))
    clear hd hg;go_wp2;exact ⟨_, rfl, Below.refl _ _, rfl⟩
   (try simp only [List.cons_append, List.nil_append, Act.put, List.setIfInBounds_toArray, List.set_cons_zero, List.set_cons_succ])
   refine inv_done (fun wx hg hd => ?_);have hx := ((Below.refl wr.heap.size wr).drew).trans hg
   (have ee : v0 = (.pointer (some ⟨w.heap.size, 0, none⟩) : Value) := hd 0 (by simp); subst ee)
   (have ee : v1 = (.int .i64 r : Value) := hd 1 (by simp); subst ee)
   (have ee : v2 = (.pointer (some ⟨w.heap.size, 1, none⟩) : Value) := hd 2 (by simp); subst ee)
   (have ee : v3 = (.pointer (some ⟨w.heap.size, 1, none⟩) : Value) := hd 3 (by simp); subst ee)
   (have ee : v4 = (.int .i64 z.1 : Value) := hd 4 (by simp); subst ee)
   (have ee : v5 = (.slice (some ⟨g, off, none⟩) n c : Value) := hd 5 (by simp); subst ee)
   (have ee : v6 = (.int .i64 k : Value) := hd 6 (by simp); subst ee)
   (have ee : v7 = (.pointer (some ⟨g, off + k * 2, none⟩) : Value) := hd 7 (by simp); subst ee)
   (have ee : v8 = (.pointer (some ⟨g, off + k * 2, none⟩) : Value) := hd 8 (by simp); subst ee)
   (have ee : v9 = (.int .i64 y.1 : Value) := hd 9 (by simp); subst ee)
   (have ee : v10 = (.int .i64 (z.1 + y.1) : Value) := hd 10 (by simp); subst ee)
   (have ee : v11 = (.pointer (some ⟨w.heap.size, 1, none⟩) : Value) := hd 11 (by simp); subst ee)
   (have ee : v12 = (.pointer (some ⟨w.heap.size, 2, none⟩) : Value) := hd 12 (by simp); subst ee)
   (have ee : v13 = (.int .i64 z.2 : Value) := hd 13 (by simp); subst ee)
   (have ee : v14 = (.slice (some ⟨g, off, none⟩) n c : Value) := hd 14 (by simp); subst ee)
   (have ee : v15 = (.int .i64 k : Value) := hd 15 (by simp); subst ee)
   (have ee : v16 = (.pointer (some ⟨g, off + k * 2, none⟩) : Value) := hd 16 (by simp); subst ee)
   (have ee : v17 = (.pointer (some ⟨g, off + k * 2 + 1, none⟩) : Value) := hd 17 (by simp); subst ee)
   (have ee : v18 = (.int .i64 y.2 : Value) := hd 18 (by simp); subst ee)
   (have ee : v19 = (.int .i64 (z.2 + y.2) : Value) := hd 19 (by simp); subst ee)
   (have ee : v20 = (.agg #[.int .i64 (z.1 + y.1), .int .i64 (z.2 + y.2)] : Value) := hd 20 (by simp); subst ee)
   (have ee : v21 = (.agg #[.int .i64 r, .int .i64 (z.1 + y.1), .int .i64 (z.2 + y.2)] : Value) := hd 21 (by simp); subst ee)
   (have ee : v22 = (.tuple #[.int .u64 v, .int .i64 ev] : Value) := hd 22 (by simp); subst ee)
   (have ee : v23 = (.tuple #[.int .u64 v, .int .i64 ev] : Value) := hd 23 (by simp); subst ee)
   (have ee : v24 = (.int .u64 v : Value) := hd 24 (by simp); subst ee)
   (have ee : v25 = (.int .i64 ev : Value) := hd 25 (by simp); subst ee)
   (have ee : v26 = (.int .u64 v : Value) := hd 26 (by simp); subst ee)
   (have ee : v27 = (.int .i64 ev : Value) := hd 27 (by simp); subst ee)
   clear hd hg
   (try go_simp)
   have hown := own_later HI.out.1 hx;have HB8 := Lib.hid (HI.out.2.trans (hx.mono HI.out.2.size));have hz8 := HB8.out.size;have HTA := Lib.hid (HT1.out ((L.take k).map (addE z)) [(z.1 + y.1, z.2 + y.2)]);clear hx HI HCX;by_cases hokz : okB r (z.1 + y.1, z.2 + y.2) = true
   ·have HNX : Hid (tellL r ((L.take (k + 1)).map (addE z)) = tellL r ((L.take k).map (addE z)) ++ [(v : Int)]) := by show _ = _; rw [HMK.out, HTA.out, HT2z.out, if_pos hokz]
    have h0E : ev = 0 := by rw [HOEz.out, if_pos hokz]
    subst h0E
    go_wp2_with (at_builtin; refine wpList_append_own _ rfl (.tmp 43) (.tmp 45) 22 rfl w2.heap.size 35 i0 (.int .u64 0) 1 8 Tryz.underlying22 hi hz0 hz1 hz2 rfl (by decide) _ _ _ rfl (hown.alloc _) ⟨wx.heap.size, 0, none⟩ 1 1 [.int .u64 v] rfl rfl (cells_new _ _ _ _ rfl) (by simp [Value.oneCell']) (by unfold maxLen; omega) (by omega) (by simp; omega) ?_; intro v' w9 hown1 hgrow _)
    have HB9 : Hid (Below w2.heap.size w2 w9) := below_append (HB8.out.alloc (by omega) (.cells #[.int .u64 v] 35)) (hown.alloc (.cells #[.int .u64 v] 35)) (by simp; omega) hgrow;obtain ⟨ao', c', rfl, _⟩ := own_form hown1;have ho9 : w9.ownsRow w2.heap.size 35 1 (.slice ao' (m + 1) c') (m + 1) (uV (tellL r ((L.take (k + 1)).map (addE z)))) := by rw [HNX.out]; simpa [uV] using hown1
    have HO9 := Lib.hid ho9;have HLN : Hid ((tellL r ((L.take (k + 1)).map (addE z))).length = m + 1) := by show _ = _; rw [HNX.out, List.length_append, HLEN.out]; rfl
    clear hown1 hgrow hown ho9;go_wp2
    go_roundw
    case rel => exact ⟨k + 1, m + 1, ao', c', by omega, by go_num, by omega, rfl, HLN.out, HO9.out, HB9.out⟩
    case measure => simp [intOf]; omega
   ·have HNX : Hid (tellL r ((L.take (k + 1)).map (addE z)) = tellL r ((L.take k).map (addE z))) := by show _ = _; rw [HMK.out, HTA.out, HT2z.out, if_neg hokz, List.append_nil]
    have h0E : ev = 2 := by rw [HOEz.out, if_neg hokz]
    subst h0E;have HLN : Hid ((tellL r ((L.take (k + 1)).map (addE z))).length = m) := by show _ = _; rw [HNX.out, HLEN.out]
    have HO7 := Lib.hid hown;rw [<- HNX.out] at HO7;clear hown;go_wp2
    go_roundw
    case rel => exact ⟨k + 1, m, bo, d, by omega, by go_num, by omega, rfl, HLN.out, HO7.out, HB8.out⟩
    case measure => simp [intOf]; omega
  ·have hkn : n <= k := by omega
   rw [HTL.out k hkn] at HLEN HI;have hwo := words_own HLEN.out.symm HI.out.1;have HSE := Lib.hid (rset_own bo d _ wr hwo (by rw [HLEN.out]; omega));rw [HLEN.out, <- HBL.out] at HSE;have HB8 := Lib.hid (HAL.out.trans (HI.out.2.mono HAL.out.size));clear hwo HI HLEN
   go_wp2_with fail
   refine HSE.out.mono ?_;rintro e w5 ⟨qo, q, rfl, hq, hb5⟩;have HF : Hid (JoinedO w (besL r z L) (.returned (.slice qo (besL r z L).length q)) w5) := ⟨qo, q, rfl, own_base hq HB8.out.size, HB8.out.trans (hb5.mono HB8.out.size)⟩;clear hq hb5;go_wp2;go_ret;exact HF.out
def ToldOwn (w : World) (L : List Int) (E : Int) (e : Ending) (w' : World) : Prop := ∃ ao c, e = .returned (.tuple #[.slice ao L.length c, .int .i64 E]) /\ w'.ownsRow w.heap.size 35 1 (.slice ao L.length c) L.length (uV L) /\ Below w.heap.size w w'
theorem ToldOwn.nil {w w' : World} {E : Int} (h : Below w.heap.size w w') : ToldOwn w [] E (.returned (.tuple #[.slice none 0 0, .int .i64 E])) w' := ⟨Option.none, 0, rfl, World.ownsRow_nil _ _ _ _, h⟩
theorem rnei_own (w0 : Nat) (hw0 : w0 < 18446744073709551616) (w : World) : Calls Tryz.prog 24 #[.int .u64 w0] w (ToldOwn w (rgsL w0 1 1 1) (rgsE w0 1 1)) := by
 obtain ⟨i1, hj, hy0, hy1, hy2⟩ := info_parts info_e;have HCE := Lib.hid (rcell_any w0 hw0);have hsm := cv_sm w0;rcases isW_cv (w0 := w0) with ⟨hW, hE⟩ | ⟨hW, hE⟩
 ·rw [hE] at HCE
  have e1 : rgsE w0 1 1 = 0 := by unfold rgsE; rw [if_pos hW, if_neg (by omega), if_neg (by omega)]
  have e2 : rgsL w0 1 1 1 = besL (cvR w0) (cvZ w0) unitL := by
   unfold rgsL;rw [if_pos e1];exact (bes_eq hW unitL_mem).symm
  rw [e1, e2];have HBE := Lib.hid (fun ao c w (h : EAt w ao unitL) => beside_own (cvR w0) (cvZ w0) ao c unitL w h hsm (fun y hy => sm_steps (by have := ((unitL_mem y).1 hy).2; omega)) (by decide));have HUT := Lib.hid (fun k (h : k < 6) => unitL_take h);have HUL : Hid (unitL.length = 6) := by show _ = _; decide
  generalize besL (cvR w0) (cvZ w0) unitL = B at *;generalize unitL = L at *;generalize cvR w0 = R at *;generalize cvZ w0 = z at *;clear e1 e2 hE hW hsm;simp only [vC] at *
  go_enter Tryz.func24, Tryz.ntmps24
  go_wp2_with fail
  refine (HCE.out _).mono ?_;rintro e w2 ⟨rfl, hb2⟩;have HB : Hid (Below w.heap.size w (w2.alloc (.cells #[.int .i64 R, .int .i64 z.1, .int .i64 z.2] 39))) := hb2.alloc hb2.size _;have HC : Hid (Tri (w2.alloc (.cells #[.int .i64 R, .int .i64 z.1, .int .i64 z.2] 39)) w2.heap.size R z) := heap_new _ _ _ rfl;clear hb2
  go_upto_region 4 with (fail)
  generalize w2.alloc (.cells #[.int .i64 R, .int .i64 z.1, .int .i64 z.2] 39) = w3 at *;have hwl := HC.out.lt;go_wp2
  go_loopw [6, 7] (fun sl i wr => ∃ (k : Nat) (ao : Option Addr) (c : Nat), k <= 6 /\ i = .int .i64 k /\ sl = .slice ao k c /\ Hid (wr.ownsRow w3.heap.size 37 2 (.slice ao k c) k (eV (L.take k)) /\ Below w3.heap.size w3 wr)) (fun _ i _ => 6 - (intOf i).toNat)
  case atStart => exact ⟨0, _, _, by omega, rfl, rfl, World.ownsRow_nil _ _ _ _, Below.refl _ _⟩
  case round =>
   obtain ⟨k, ao, c, hk, rfl, rfl, HI⟩ := hrel;by_cases hlt : k < 6
   ·have HUN := Lib.hid (runit_in k hlt)
    have HTK := Lib.hid (HUT.out k hlt);simp only [vE] at HUN;generalize unitE k = u at *
    go_wp2_with fail
    refine (HUN.out _).mono ?_;rintro e w5 ⟨rfl, hb5⟩;have hown := own_later HI.out.1 hb5;have HB5 := Lib.hid (HI.out.2.trans (hb5.mono HI.out.2.size));have hz5 := HB5.out.size;clear HI hb5
    go_wp2_with (at_builtin; refine wpList_append_own _ rfl (.tmp 20) (.tmp 23) 86 rfl w3.heap.size 37 i1 (.agg #[.int .i64 0, .int .i64 0]) 2 16 Tryz.underlying86 hj hy0 hy1 hy2 rfl (by decide) _ _ _ rfl (hown.alloc _) ⟨w5.heap.size, 0, none⟩ 1 1 [.int .i64 u.1, .int .i64 u.2] rfl rfl (cells_new _ _ _ _ rfl) (by simp [Value.oneCell']) (by unfold maxLen; omega) (by omega) (by simp; omega) ?_; intro v' w9 hown1 hgrow _)
    have HB9 : Hid (Below w3.heap.size w3 w9) := below_append (HB5.out.alloc (by omega) (.cells #[.int .i64 u.1, .int .i64 u.2] 37)) (hown.alloc (.cells #[.int .i64 u.1, .int .i64 u.2] 37)) (by simp; omega) hgrow;obtain ⟨ao', c', rfl, _⟩ := own_form hown1;have ho9 : w9.ownsRow w3.heap.size 37 2 (.slice ao' (k + 1) c') (k + 1) (eV (L.take (k + 1))) := by rw [HTK.out, eV_append, eV_one]; exact hown1
    have HO9 := Lib.hid ho9;clear hown1 hgrow hown ho9;go_wp2
    go_roundw
    case rel => exact ⟨k + 1, ao', c', by omega, by go_num, rfl, HO9.out, HB9.out⟩
    case measure => simp [intOf]; omega
   ·have hk6 : 6 <= k := by omega
    have hown := HI.out.1;rw [show L.take k = L from List.take_of_length_le (by rw [HUL.out]; exact hk6)] at hown;have HSE := Lib.hid (HBE.out ao c wr (eAt_own (by rw [HUL.out]; omega) hown));rw [show L.length = k by rw [HUL.out]; omega] at HSE;have HBX := Lib.hid (HB.out.trans (HI.out.2.mono HB.out.size));obtain ⟨t0, t1, t2, t3, t4, t5, t6⟩ := (HC.out.later HI.out.2).cells;clear hown HI
    go_wp2_with fail
    refine HSE.out.mono ?_;rintro e w5 ⟨qo, q, rfl, hq, hb5⟩;have HF : Hid (ToldOwn w B 0 (.returned (.tuple #[.slice qo B.length q, .int .i64 0])) w5) := ⟨qo, q, rfl, own_base hq HBX.out.size, HBX.out.trans (hb5.mono HBX.out.size)⟩;clear hq hb5;go_wp2;go_ret2;exact HF.out
 ·have e1 : rgsE w0 1 1 = 5 := by unfold rgsE; rw [if_neg (by rw [hW]; decide)]
  have e2 : rgsL w0 1 1 1 = [] := by unfold rgsL; rw [e1]; rfl
  rw [e1, e2];rw [hE] at HCE;generalize cvR w0 = R at *;generalize cvZ w0 = z at *;clear e1 e2 hE hW hsm;simp only [vC] at *
  go_enter Tryz.func24, Tryz.ntmps24
  go_wp2_with fail
  refine (HCE.out _).mono ?_;rintro e w2 ⟨rfl, hb2⟩;have HB : Hid (Below w.heap.size w (w2.alloc (.cells #[.int .i64 R, .int .i64 z.1, .int .i64 z.2] 39))) := hb2.alloc hb2.size _;clear hb2;go_wp2;go_ret2;exact ToldOwn.nil HB.out
end
end Go.Proofs.YtpkoapmpknbgoaaGreat
