/- The walk of the law PolyTurned. -/
import Derived.Test.YtnnfkdajbaicoaaPolyH
import Derived.Test.YtnnfkdajbaicoaaPolyU
import Derived.Test.YtnnfkdajbaicoaaLex4
import Derived.Deep.CutRange
import Derived.Maps.AppendAt
import Derived.ArgAppend
import Derived.Lib.AppendZeros
namespace Go.Proofs.Ytnnfkdajbaicoaa.polyTurned
open Go.RowKit

/-- Two rows lie in blocks of their own. -/
def Apart (v u : Value) : Prop := ∀ k, v.ownBlock = some k → u.ownBlock ≠ some k
theorem Apart.symm {v u : Value} (h : Apart v u) : Apart u v := fun k h1 h2 => h k h2 h1
theorem Apart.ne {v u : Value} (h : Apart v u) : v.ownBlock = none ∨ v.ownBlock ≠ u.ownBlock := by
  cases e : v.ownBlock with
  | none => exact .inl rfl
  | some k => exact .inr fun e2 => h k e e2.symm
theorem _root_.Go.World.ownsRow.lt_size {w : World} {base : Nat} {e : TypeId} {size : Nat} {v : Value} {n : Nat} {xs : List Value} (h : w.ownsRow base e size v n xs) : ∀ k, v.ownBlock = some k → k < w.heap.size := fun k hk => (h.lt k hk).2
theorem Apart.step {v v' u : Value} {g : Nat} (h : Apart v u) (hv : v'.ownBlock = v.ownBlock ∨ v'.ownBlock = some g) (hu : ∀ k, u.ownBlock = some k → k < g) : Apart v' u := fun k h1 h2 => by
  rcases hv with e | e
  · exact h k (e.symm.trans h1) h2
  · have := hu k h2
    rw [e] at h1
    cases h1
    omega

/-- A row of rings. -/
def Good (m : Nat) (ls : List (List Pt)) (v : Value) (w : World) : Prop := ∃ ao c, v = .slice ao m c ∧ RingsAt w w.heap.size ao ls
theorem Good.later {m : Nat} {ls : List (List Pt)} {v : Value} {w w' : World} (h : Good m ls v w) (hb : Below w.heap.size w w') : Good m ls v w' := by
  obtain ⟨ao, c, e, h⟩ := h
  refine ⟨ao, c, e, fun h0 => ?_⟩
  obtain ⟨b, off, e1, e2, e3⟩ := h.below hb (Nat.le_refl _) h0
  refine ⟨b, off, e1, by have := hb.size; omega, fun i hi => ?_⟩
  obtain ⟨ri, ci, g1, g2⟩ := e3 i hi
  exact ⟨ri, ci, g1, ring_wider g2 hb.size⟩
def Lone (B : Nat) (X v : Value) (w : World) : Prop := w.ownsRow B 26 1 v 1 [X] ∧ ∃ g, v = .slice (some ⟨g, 0, none⟩) 1 1
theorem Lone.later {B : Nat} {X v : Value} {w w' : World} (h : Lone B X v w) (hb : Below w.heap.size w w') : Lone B X v w' := ⟨own_below h.1 hb (Nat.le_refl _), h.2⟩
/-- What each operation of the drawn region leaves. -/
def RR (B m : Nat) (X1 X2 X3 O T : Value) (l1 l2 l3 : List (List Pt)) : Nat → Value → World → Prop
  | 0, v, _ => v = X1
  | 1, v, w => Lone B X1 v w
  | 2, v, _ => v = O
  | 3, v, _ => v = T
  | 4, v, w => Good m l1 v w
  | 5, v, _ => v = X2
  | 6, v, w => Lone B X2 v w
  | 7, v, _ => v = O
  | 8, v, _ => v = T
  | 9, v, w => Good m l2 v w
  | 10, v, _ => v = X3
  | 11, v, w => Lone B X3 v w
  | 12, v, _ => v = O
  | 13, v, _ => v = T
  | 14, v, w => Good m l3 v w
  | 15, v, w => Good m l1 v w
  | 16, v, w => Good m l2 v w
  | 17, v, w => Good m l3 v w
  | _, _, _ => True
theorem RR.later {B m : Nat} {X1 X2 X3 O T : Value} {l1 l2 l3 : List (List Pt)} {i : Nat} {v : Value} {w w' : World} (h : RR B m X1 X2 X3 O T l1 l2 l3 i v w) (hb : Below w.heap.size w w') : RR B m X1 X2 X3 O T l1 l2 l3 i v w' := by
  unfold RR at *
  split at h <;> first | exact h | exact Lone.later h hb | exact Good.later h hb

theorem own_cells {w : World} {base : Nat} : ∀ {vs : List Value} {ls : List (List Pt)}, OwnRings w base vs ls → ∀ u ∈ vs, u.oneCell' = true
  | [], [], _, u, hu => by simp at hu
  | v :: vs, l :: ls, h, u, hu => by
    rcases List.mem_cons.1 hu with rfl | hu
    · obtain ⟨ao, c, rfl, _⟩ := own_form h.1; rfl
    · exact own_cells h.2 u hu
theorem app_step {ops : Array Oper} {rest : List Oper} {o : Oper} {a : Act} {Q : Exit → Act → World → Prop} {w : World} (hgd : o.guard = none) (s x : Operand) (ho : o.op = .call { callee := .builtin .append, args := #[s, x], argTypes := #[23, 23] })
    (B b2 m g t0 cc g1 : Nat) (X : Value) (vs' : List Value) (ls : List (List Pt)) (i0 : TypeInfo) (hi : Try.prog.info? 26 = some i0) (hz0 : i0.zero = some (.slice none 0 0)) (hz1 : i0.size = 1) (hz2 : i0.bytes = 24)
    (hs : a.eval s = .slice (some ⟨g1, 0, none⟩) 1 1) (hl : w.ownsRow B 26 1 (.slice (some ⟨g1, 0, none⟩) 1 1) 1 [X]) (hx : a.eval x = .slice (some ⟨g, t0, none⟩) (m - 1) cc) (hvs : vs'.length = m - 1)
    (hc : ∀ j u, vs'[j]? = some u → w.cell? ((⟨g, t0, none⟩ : Addr).add j) = some u) (h1c : ∀ u ∈ vs', u.oneCell' = true) (hO : OwnRings w b2 (X :: vs') ls) (hm : m = ls.length) (hm1 : 1 ≤ m) (hm3 : m ≤ 3)
    (h : ∀ v' w', Good m ls v' w' → Below w.heap.size w w' → wpList Try.prog ops Q rest (a.put o.dst v') w') : wpList Try.prog ops Q (o :: rest) a w := by
  by_cases h1 : m = 1
  · subst h1
    have e : vs' = [] := List.eq_nil_of_length_eq_zero (by simpa using hvs)
    subst e
    refine Lib.wpList_append_run w hgd s x 23 23 ho _ _ hs hx (.slice (some ⟨g1, 0, none⟩) 1 1) w ?_ (h _ _ ⟨_, _, rfl, rings_of_own hl hO hm⟩ (Below.refl _ _))
    simp [Builtin.append_, run_underlying Try.underlying23, sizeOf, typeInfo, hi, Builtin.lenOf, Builtin.firstCells, loadCells, loadCellsFrom, storeCells]
  · refine wpList_append_grows w hgd s x 23 ho 26 i0 (.slice none 0 0) 1 24 Try.underlying23 hi hz0 hz1 hz2 rfl (by decide) (some ⟨g1, 0, none⟩) 1 1 [X] hs (fun h => by cases h) rfl (fun b hb => by cases hb; exact hl.cells rfl)
      ⟨g, t0, none⟩ (m - 1) cc vs' hx (by rw [hvs, Nat.mul_one]) hc h1c (by omega) (by unfold maxLen; omega) (by omega) ?_
    intro v' w' hown hg
    have hb := below_grown0 hg
    rw [show 1 + (m - 1) = m from by omega] at hown
    obtain ⟨ao, c, rfl, _, _⟩ := own_form hown
    exact h _ _ ⟨_, _, rfl, rings_of_own hown (OwnRings.below hb (Nat.le_refl _) hO) hm⟩ hb

/-- A look at rings, in whatever later world; its answer is known. -/
def InsV (f : Nat) (ao : Option Addr) (n c : Nat) (x y : Int) (P : Bool) (X : World) : Prop :=
  ∀ wx, Below X.heap.size X wx → Calls Try.prog f #[.slice ao n c, .int .i64 x, .int .i64 y] wx fun e w' => e = .returned (.bool P) ∧ Below X.heap.size X w'
def AreV (ao : Option Addr) (n c : Nat) (V : Int) (X : World) : Prop :=
  ∀ wx, Below X.heap.size X wx → Calls Try.prog 15 #[.slice ao n c] wx fun e w' => e = .returned (.int .i64 V) ∧ Below X.heap.size X w'
theorem InsV.use {f n c : Nat} {ao : Option Addr} {x y : Int} {P : Bool} {X : World} (h : InsV f ao n c x y P X) {wx : World} (hb : Below X.heap.size X wx) :
    Calls Try.prog f #[.slice ao n c, .int .i64 x, .int .i64 y] wx fun e w' => e = .returned (.bool P) ∧ Below X.heap.size X w' := h wx hb
theorem AreV.use {n c : Nat} {ao : Option Addr} {V : Int} {X : World} (h : AreV ao n c V X) {wx : World} (hb : Below X.heap.size X wx) :
    Calls Try.prog 15 #[.slice ao n c] wx fun e w' => e = .returned (.int .i64 V) ∧ Below X.heap.size X w' := h wx hb
theorem insV_of {ao : Option Addr} {m c : Nat} {ls : List (List Pt)} {X : World} (h : RingsAt X X.heap.size ao ls) (hm : m = ls.length) (hn : ls.length ≤ 1000000000) (ht : totTo ls ls.length ≤ 1000000000) (x y : Int) (P : Bool) (hP : insideF ls x y = P) : InsV 12 ao m c x y P X := by
  subst hm hP
  exact fun wx hb => (inside_any ao c ls x y wx _ hb.size (h.below hb (Nat.le_refl _)) hn ht).mono fun e w' ⟨he, h2⟩ => ⟨he, below_later hb hb.size h2⟩
theorem onV_of {ao : Option Addr} {m c : Nat} {ls : List (List Pt)} {X : World} (h : RingsAt X X.heap.size ao ls) (hm : m = ls.length) (hn : ls.length ≤ 1000000000) (ht : totTo ls ls.length ≤ 1000000000) (x y : Int) (P : Bool) (hP : onF ls x y = P) : InsV 13 ao m c x y P X := by
  subst hm hP
  exact fun wx hb => (onall_any ao c ls x y wx _ hb.size (h.below hb (Nat.le_refl _)) hn ht).mono fun e w' ⟨he, h2⟩ => ⟨he, below_later hb hb.size h2⟩
theorem areV_of {ao : Option Addr} {n c : Nat} {l : List Pt} {X : World} (h : RingAt X X.heap.size ao l) (hm : n = l.length) (hn : n ≤ 1000000000) (V : Int) (hP : area2F l = V) : AreV ao n c V X := by
  subst hm hP
  exact fun wx hb => (area_any ao c l wx _ hb.size (h.below hb (Nat.le_refl _)) hn).mono fun e w' ⟨he, h2⟩ => ⟨he, below_later hb hb.size h2⟩
theorem tot_small {ls : List (List Pt)} (h1 : ls.length ≤ 3) (h : ∀ l ∈ ls, l.length ≤ 6) : ls.length ≤ 1000000000 ∧ totTo ls ls.length ≤ 1000000000 := by
  have := totTo_bound 6 ls ls.length h
  omega

set_option maxRecDepth 100000 in
set_option maxHeartbeats 16000000 in
theorem walk {w : World} (a0 : Option Addr) (n0 c0 : Nat) (z0 : Nat → Int) (h0 : IntsAtK .i64 w w.heap.size a0 n0 z0) (_b0 : ∀ i, i < n0 → (Lit.int .i64 (z0 i)).wf = true) (s0 : n0 * 8 ≤ 140737488351232)
    (a1 : Int) (_w1 : (Lit.int .i64 a1).wf = true) (a2 : Int) (_w2 : (Lit.int .i64 a2).wf = true) (a3 : Int) (_w3 : (Lit.int .i64 a3).wf = true) :
    Calls Try.prog 5 #[.slice a0 n0 c0, .int .i64 a1, .int .i64 a2, .int .i64 a3] w fun e w' => e = .returned (.bool true) ∧ Below w.heap.size w w' := by
  obtain ⟨i1, hj, hy0, hy1, hy2⟩ := info_parts info_pt
  obtain ⟨i0, hi, hz0, hz1, hz2⟩ := info_parts info_ring
  go_enter Try.func5, Try.ntmps5
  go_wp2_with fail
  refine (tame_any _ _ _ z0 60 w w.heap.size (Nat.le_refl _) h0 (by omega) (by omega) (by omega)).mono ?_
  rintro e w1 ⟨v, ls, rfl, hT, ⟨vs, hown, hO⟩, hb⟩
  obtain ⟨ao, co, rfl, hmc, hcells⟩ := own_form hown
  obtain ⟨m, hm⟩ : ∃ m, ls.length = m := ⟨_, rfl⟩
  rw [hm] at hown hmc ⊢
  by_cases hm0 : m = 0
  · have hq0 : ((m : Int) == 0) = true := by simp [hm0]
    clear hm
    go_wp2_with (first | (go_at_call 11; refine (awake_any _).mono ?_; rintro e w' ⟨rfl, hbw⟩))
    go_ret
    exact ⟨rfl, below_later hb hb.size hbw⟩
  by_cases hn : 60 < n0
  · have hq0 : ((m : Int) == 0) = false := by simp; omega
    clear hm
    go_wp2_with (first | (go_at_call 11; refine (awake_any _).mono ?_; rintro e w' ⟨rfl, hbw⟩))
    go_ret
    exact ⟨rfl, below_later hb hb.size hbw⟩
  have hq0 : ((m : Int) == 0) = false := by simp; omega
  have hex : ∃ a r g ra ca vs', ao = some ⟨g, 0, none⟩ ∧ g < w1.heap.size ∧ ls = a :: r ∧ vs = .slice ra a.length ca :: vs' ∧ w1.ownsRow w.heap.size 27 2 (.slice ra a.length ca) a.length (ringV a) ∧ OwnRings w1 w.heap.size vs' r := by
    cases ls with
    | nil => exact absurd hm.symm hm0
    | cons a r =>
      cases vs with
      | nil => exact hO.elim
      | cons v0 vs =>
        obtain ⟨g, e, _, hg, hcell⟩ := hcells (by simp)
        obtain ⟨ra, ca, rfl, hra⟩ := ring_of_own hO.1
        exact ⟨a, r, g, ra, ca, vs, e, hg, rfl, rfl, hO.1, hO.2⟩
  obtain ⟨a, r, g, ra, ca, vs', rfl, hgw, rfl, rfl, howna, hor⟩ := hex
  have hcell : ∀ j u, (Value.slice ra a.length ca :: vs')[j]? = some u → w1.cell? ⟨g, j, none⟩ = some u := by
    obtain ⟨g', e', _, _, hc⟩ := hcells (by simp)
    cases e'
    exact hc
  have cr := hcell 0 _ rfl
  have HCE := Lib.hid hcell
  have hT1 := hT.2 a (by simp)
  have hra := ring_at_own rfl howna
  obtain ⟨n, hn1⟩ : ∃ n, a.length = n := ⟨_, rfl⟩
  have h6 := hT1.2.1
  have h3 := hT1.1
  rw [hn1] at cr h3 h6
  have HN : Hid (a.length = n) := hn1
  have HM : Hid ((a :: r).length = m) := hm
  have HO : Hid (OwnRings w1 w.heap.size vs' r) := hor
  have HA : Hid (w1.ownsRow w.heap.size 27 2 (.slice ra a.length ca) a.length (ringV a)) := howna
  have HT : Hid (TameOK 60 (a :: r)) := hT
  have HOW := Lib.hid hown
  have hs1 := hb.size
  have hm3 : m ≤ 3 := by have := hT.1; omega
  obtain ⟨f, ef, hf0, hf1⟩ : ∃ f : Nat, bits BinOp.and IntKind.i64 a1 255 = (f : Int) ∧ 0 ≤ f ∧ f ≤ 255 := ⟨(a1 % 256).toNat, by rw [i64_and_mask a1 8 (by omega) 255 rfl]; omega, by omega, by omega⟩
  obtain ⟨p, eu, hp0⟩ : ∃ p, bits BinOp.and IntKind.i64 a2 65535 = p ∧ 0 ≤ p := ⟨_, i64_and_mask a2 16 (by omega) 65535 rfl, Int.emod_nonneg _ (by omega)⟩
  obtain ⟨q, ev, hq0'⟩ : ∃ p, bits BinOp.and IntKind.i64 a3 65535 = p ∧ 0 ≤ p := ⟨_, i64_and_mask a3 16 (by omega) 65535 rfl, Int.emod_nonneg _ (by omega)⟩
  clear hm hcells hO hown hT hor howna hcell hT1 hn1
  go_wp2_with (first | (with_reducible refine wp_region_lex (by kernel_rfl) (by kernel_rfl) ?_) | (with_reducible refine OnlyG.intro (by kernel_rfl) ?_))
  go_loopw [14, 15, 16] (fun v u i wr => ∃ k : Nat, k ≤ n ∧ i = .int .i64 k ∧ wr.ownsRow w1.heap.size 27 2 v k (ringV (rotTo a f k)) ∧ wr.ownsRow w1.heap.size 27 2 u k (ringV (revTo a k)) ∧ Hid (Apart v u) ∧ Below w1.heap.size w1 wr) (fun _ _ i _ => n - (intOf i).toNat)
  case atStart => exact ⟨0, Nat.zero_le _, rfl, World.ownsRow_nil _ _ _ _, World.ownsRow_nil _ _ _ _, fun k h => by simp [Value.ownBlock] at h, Below.refl _ _⟩
  case round =>
    obtain ⟨k, hk, rfl, hv, hu, HD, hnx⟩ := hrel
    have hsz := hnx.size
    by_cases hlt : k < n
    · obtain ⟨b, off, rfl, hbB, hc⟩ := hra.below hnx (Nat.le_refl _) (by rw [HN.out]; omega)
      obtain ⟨s, hs, hsn⟩ : ∃ s, (k + f) % n = s ∧ s < n := ⟨_, rfl, Nat.mod_lt _ (by omega)⟩
      have hsI : ((k : Int) + (f : Int)) % (n : Int) = (s : Int) := by have := congrArg (fun x : Nat => (x : Int)) hs; simpa using this
      obtain ⟨t, ht, htn⟩ : ∃ t, n - 1 - k = t ∧ t < n := ⟨_, rfl, by omega⟩
      have htI : (n : Int) - 1 - (k : Int) = (t : Int) := by omega
      obtain ⟨d0, d1⟩ := hc s (by rw [HN.out]; exact hsn)
      have HC : Hid (∀ wx, Below w1.heap.size w1 wx → wx.cell? ⟨b, off + t * 2, none⟩ = some (.int .i64 (px a t)) ∧ wx.cell? ⟨b, off + t * 2 + 1, none⟩ = some (.int .i64 (py a t)) ∧ b < wx.heap.size) := fun wx hbx => by
        obtain ⟨b', off', e', hb', hc'⟩ := hra.below hbx (Nat.le_refl _) (by rw [HN.out]; omega)
        cases e'
        have := hbx.size
        exact ⟨(hc' t (by rw [HN.out]; exact htn)).1, (hc' t (by rw [HN.out]; exact htn)).2, by omega⟩
      have R1 : Hid (ringV (rotTo a f (k + 1)) = ringV (rotTo a f k) ++ [.int .i64 (px a s), .int .i64 (py a s)]) := by
        show _ = _; rw [rotTo_succ, ringV_snoc, HN.out, hs]
      have R2 : Hid (ringV (revTo a (k + 1)) = ringV (revTo a k) ++ [.int .i64 (px a t), .int .i64 (py a t)]) := by
        show _ = _; rw [revTo_succ, ringV_snoc, HN.out, ht]
      have hbw : b < wr.heap.size := by omega
      clear hc hs ht
      obtain ⟨vo, vc, rfl, _, _⟩ := own_form hv
      obtain ⟨uo, uc, rfl, _, _⟩ := own_form hu
      have t1 : True := trivial
      go_wp2_with (first
        | (at_builtin; have _t := t1; refine wpList_append_own_at _ rfl (.tmp 52) (.tmp 62) 26 rfl w1.heap.size 27 i1 (.agg #[.int .i64 0, .int .i64 0]) 2 16 Try.underlying26 hj hy0 hy1 hy2 rfl (by decide) _ _ _ rfl (hv.alloc _) ⟨wr.heap.size, 0, none⟩ 1 1 [.int .i64 (px a s), .int .i64 (py a s)] rfl rfl (cells_new _ _ _ _ rfl) (by simp [Value.oneCell']) (by unfold maxLen; omega) (by omega) (by simp; omega) ?_; intro v' w2 hown1 hgrow _ hat; clear t1;
           have hb2 := below_append (hnx.alloc hsz _) (hv.alloc _) (by simp; omega) hgrow;
           have hu2 := ((hu.alloc (.cells #[.int .i64 (px a s), .int .i64 (py a s)] 27)).kept hgrow HD.out.symm.ne);
           have HD2 : Hid (Apart v' (.slice uo k uc)) := HD.out.step hat (hu.alloc (.cells #[.int .i64 (px a s), .int .i64 (py a s)] 27)).lt_size;
           have hs2 := hb2.size; have f0 := (HC.out _ hb2).1; have f1 := (HC.out _ hb2).2.1; have hbw2 := (HC.out _ hb2).2.2)
        | (at_builtin; refine wpList_append_own_at _ rfl (.tmp 64) (.tmp 72) 26 rfl w1.heap.size 27 i1 (.agg #[.int .i64 0, .int .i64 0]) 2 16 Try.underlying26 hj hy0 hy1 hy2 rfl (by decide) _ _ _ rfl (hu2.alloc _) ⟨w2.heap.size, 0, none⟩ 1 1 [.int .i64 (px a t), .int .i64 (py a t)] rfl rfl (cells_new _ _ _ _ rfl) (by simp [Value.oneCell']) (by unfold maxLen; omega) (by omega) (by simp; omega) ?_; intro u' w3 hown2 hgrow2 _ hat2))
      go_roundw
      case rel =>
        exact ⟨k + 1, by omega, by go_num, by rw [R1.out]; exact (hown1.alloc _).kept hgrow2 (HD2.out.ne), by rw [R2.out]; exact hown2,
          ((HD2.out.symm.step hat2 (hown1.alloc (.cells #[.int .i64 (px a t), .int .i64 (py a t)] 27)).lt_size).symm), below_append (hb2.alloc hs2 _) (hu2.alloc _) (by simp; omega) hgrow2⟩
      case measure => simp [intOf] <;> omega
    · obtain rfl : k = n := by omega
      clear h0 eu ev ef
      obtain ⟨vo, vc, rfl, _, _⟩ := own_form hv
      obtain ⟨uo, uc, rfl, _, _⟩ := own_form hu
      obtain ⟨t0, ht0⟩ : ∃ t0, (co = 1 ∧ t0 = 0) ∨ (¬ co = 1 ∧ t0 = 1) := by
        by_cases h : co = 1
        · exact ⟨0, .inl ⟨h, rfl⟩⟩
        · exact ⟨1, .inr ⟨h, rfl⟩⟩
      go_upto_region 13 with fail
      go_cut [17, 18, 19] from 74 to 88 (fun v1 v2 v3 wx => Good m (a :: r) v1 wx ∧ Good m (rotTo a f k :: r) v2 wx ∧ Good m (revTo a k :: r) v3 wx ∧ Below wr.heap.size wr wx)
      case first =>
        refine wp_region_inv (fun w w' => Below w.heap.size w w') (RR wr.heap.size m (.slice ra k ca) (.slice vo k vc) (.slice uo k uc) (.slice (some ⟨g, 0, none⟩) m co) (.slice (some ⟨g, t0, none⟩) (m - 1) (co - 1)) (a :: r) (rotTo a f k :: r) (revTo a k :: r)) (by kernel_rfl) (by kernel_rfl) (fun _ => Below.refl _ _) (fun _ _ _ h1 h2 => below_later h1 h1.size h2) (fun _ _ _ _ _ h2 h => RR.later h h2) ?_
        have HVL : Hid (vs'.length = m - 1) := by have := HOW.out.1; show _ = _; simp at this; omega
        have H1V : Hid (∀ u ∈ vs', u.oneCell' = true) := own_cells HO.out
        have HOWN : Hid (∀ wx, Below wr.drew.heap.size wr.drew wx → ∀ X l, OwnRings wr w.heap.size (X :: vs') (l :: r) → OwnRings wx w.heap.size (X :: vs') (l :: r)) := fun wx hg X l h => OwnRings.below (((Below.refl wr.heap.size wr).drew).trans hg) (Nat.le_refl _) h
        have HC : Hid (∀ wx, Below wr.drew.heap.size wr.drew wx → (∀ j u, vs'[j]? = some u → wx.cell? ((⟨g, t0, none⟩ : Addr).add j) = some u)) := fun wx hg j u hju => by
          have hb2 : Below w1.heap.size w1 wx := hnx.trans ((((Below.refl wr.heap.size wr).drew).trans hg).mono hsz)
          have htt : t0 = 1 := by
            rcases ht0 with ⟨h1, _⟩ | ⟨_, h1⟩
            · exfalso; have h2 : vs'.length = m - 1 := HVL.out; have h3 := (List.getElem?_eq_some_iff.1 hju).1; omega
            · exact h1
          have := HCE.out (j + t0) u (by rw [htt]; simpa using hju)
          rw [show ((⟨g, t0, none⟩ : Addr).add j) = ⟨g, j + t0, none⟩ from by simp [Addr.add, Nat.add_comm]]
          exact (hb2.cell (p := ⟨g, j + t0, none⟩) hgw).trans this
        have HOR : Hid (OwnRings wr w.heap.size vs' r) := OwnRings.below hnx (Nat.le_refl _) HO.out
        have O1 : Hid (OwnRings wr w.heap.size (.slice ra k ca :: vs') (a :: r)) := ⟨by have := own_below HA.out hnx (Nat.le_refl _); rw [HN.out] at this ⊢; exact this, HOR.out⟩
        have O2 : Hid (OwnRings wr w.heap.size (.slice vo k vc :: vs') (rotTo a f k :: r)) := ⟨by rw [rotTo_length]; exact own_base hv hs1, HOR.out⟩
        have O3 : Hid (OwnRings wr w.heap.size (.slice uo k uc :: vs') (revTo a k :: r)) := ⟨by rw [revTo_length]; exact own_base hu hs1, HOR.out⟩
        have ML1 : Hid (m = (a :: r).length) := HM.out.symm
        have ML2 : Hid (m = (rotTo a f k :: r).length) := HM.out.symm
        have ML3 : Hid (m = (revTo a k :: r).length) := HM.out.symm
        clear hv hu
        have hm1 : 1 ≤ m := Nat.one_le_iff_ne_zero.2 hm0
        refine ⟨fun wx hg hd => ?_, fun v0 => ⟨fun wx hg hd => ?_, fun v1 => ⟨fun wx hg hd => ?_, fun v2 => ⟨fun wx hg hd => ?_, fun v3 => ⟨fun wx hg hd => ?_, fun v4 => ⟨fun wx hg hd => ?_, fun v5 => ⟨fun wx hg hd => ?_, fun v6 => ⟨fun wx hg hd => ?_, fun v7 => ⟨fun wx hg hd => ?_, fun v8 => ⟨fun wx hg hd => ?_, fun v9 => ⟨fun wx hg hd => ?_, fun v10 => ⟨fun wx hg hd => ?_, fun v11 => ⟨fun wx hg hd => ?_, fun v12 => ⟨fun wx hg hd => ?_, fun v13 => ⟨fun wx hg hd => ?_, fun v14 => ⟨fun wx hg hd => ?_, fun v15 => ⟨fun wx hg hd => ?_, fun v16 => ⟨fun wx hg hd => ?_, fun v17 => ?_⟩⟩⟩⟩⟩⟩⟩⟩⟩⟩⟩⟩⟩⟩⟩⟩⟩⟩
        · clear hd
          go_wp2
          exact ⟨_, rfl, Below.refl _ _, rfl⟩
        · have e0 := hd 0 (by simp) (by kernel_rfl)
          simp only [RR, List.nil_append, List.getD_cons_zero] at e0
          subst e0
          clear hd
          go_wp2
          have hsx : wr.heap.size ≤ wx.heap.size := hg.size
          exact ⟨_, rfl, (Below.refl _ _).alloc (Nat.le_refl _) _, own_lit (n := 1) (size := 1) (heap_new wx _ _ rfl) hsx rfl (by decide), ⟨_, rfl⟩⟩
        · clear hd
          go_wp2
          exact ⟨_, rfl, Below.refl _ _, rfl⟩
        · have e0 := hd 2 (by simp) (by kernel_rfl)
          simp only [RR, List.nil_append, List.cons_append, List.getD_cons_succ, List.getD_cons_zero] at e0
          subst e0
          clear hd
          rcases ht0 with ⟨hco, ht0⟩ | ⟨hco, ht0⟩
          · subst hco ht0
            go_wp2
            exact ⟨_, rfl, Below.refl _ _, rfl⟩
          · subst ht0
            go_wp2
            exact ⟨_, rfl, Below.refl _ _, rfl⟩
        · have e0 := hd 3 (by simp) (by kernel_rfl)
          simp only [RR, List.nil_append, List.cons_append, List.getD_cons_succ, List.getD_cons_zero] at e0
          have e1 := hd 1 (by simp) (by kernel_rfl)
          simp only [RR, List.nil_append, List.cons_append, List.getD_cons_succ, List.getD_cons_zero] at e1
          obtain ⟨hl, g1, e1⟩ := e1
          subst e0 e1
          have HCX := Lib.hid (HC.out wx hg)
          have hox := HOWN.out wx hg _ _ O1.out
          clear hd
          refine app_step rfl (.tmp 75) (.tmp 77) rfl wr.heap.size w.heap.size m g t0 (co - 1) g1 _ vs' _ i0 hi hz0 hz1 hz2 (by go_simp) hl (by go_simp) HVL.out HCX.out H1V.out hox ML1.out hm1 hm3 ?_
          intro v' w' hgd hbw
          refine ⟨_, rfl, hbw, ?_⟩
          simp only [RR, List.nil_append, List.cons_append, List.length_cons, List.length_nil, Nat.zero_add, Nat.reduceAdd]
          exact hgd
        · clear hd
          go_wp2
          exact ⟨_, rfl, Below.refl _ _, rfl⟩
        · have e0 := hd 5 (by simp) (by kernel_rfl)
          simp only [RR, List.nil_append, List.cons_append, List.getD_cons_succ, List.getD_cons_zero] at e0
          subst e0
          clear hd
          go_wp2
          have hsx : wr.heap.size ≤ wx.heap.size := hg.size
          exact ⟨_, rfl, (Below.refl _ _).alloc (Nat.le_refl _) _, own_lit (n := 1) (size := 1) (heap_new wx _ _ rfl) hsx rfl (by decide), ⟨_, rfl⟩⟩
        · clear hd
          go_wp2
          exact ⟨_, rfl, Below.refl _ _, rfl⟩
        · have e0 := hd 7 (by simp) (by kernel_rfl)
          simp only [RR, List.nil_append, List.cons_append, List.getD_cons_succ, List.getD_cons_zero] at e0
          subst e0
          clear hd
          rcases ht0 with ⟨hco, ht0⟩ | ⟨hco, ht0⟩
          · subst hco ht0
            go_wp2
            exact ⟨_, rfl, Below.refl _ _, rfl⟩
          · subst ht0
            go_wp2
            exact ⟨_, rfl, Below.refl _ _, rfl⟩
        · have e0 := hd 8 (by simp) (by kernel_rfl)
          simp only [RR, List.nil_append, List.cons_append, List.getD_cons_succ, List.getD_cons_zero] at e0
          have e1 := hd 6 (by simp) (by kernel_rfl)
          simp only [RR, List.nil_append, List.cons_append, List.getD_cons_succ, List.getD_cons_zero] at e1
          obtain ⟨hl, g1, e1⟩ := e1
          subst e0 e1
          have HCX := Lib.hid (HC.out wx hg)
          have hox := HOWN.out wx hg _ _ O2.out
          clear hd
          refine app_step rfl (.tmp 80) (.tmp 82) rfl wr.heap.size w.heap.size m g t0 (co - 1) g1 _ vs' _ i0 hi hz0 hz1 hz2 (by go_simp) hl (by go_simp) HVL.out HCX.out H1V.out hox ML2.out hm1 hm3 ?_
          intro v' w' hgd hbw
          refine ⟨_, rfl, hbw, ?_⟩
          simp only [RR, List.nil_append, List.cons_append, List.length_cons, List.length_nil, Nat.zero_add, Nat.reduceAdd]
          exact hgd
        · clear hd
          go_wp2
          exact ⟨_, rfl, Below.refl _ _, rfl⟩
        · have e0 := hd 10 (by simp) (by kernel_rfl)
          simp only [RR, List.nil_append, List.cons_append, List.getD_cons_succ, List.getD_cons_zero] at e0
          subst e0
          clear hd
          go_wp2
          have hsx : wr.heap.size ≤ wx.heap.size := hg.size
          exact ⟨_, rfl, (Below.refl _ _).alloc (Nat.le_refl _) _, own_lit (n := 1) (size := 1) (heap_new wx _ _ rfl) hsx rfl (by decide), ⟨_, rfl⟩⟩
        · clear hd
          go_wp2
          exact ⟨_, rfl, Below.refl _ _, rfl⟩
        · have e0 := hd 12 (by simp) (by kernel_rfl)
          simp only [RR, List.nil_append, List.cons_append, List.getD_cons_succ, List.getD_cons_zero] at e0
          subst e0
          clear hd
          rcases ht0 with ⟨hco, ht0⟩ | ⟨hco, ht0⟩
          · subst hco ht0
            go_wp2
            exact ⟨_, rfl, Below.refl _ _, rfl⟩
          · subst ht0
            go_wp2
            exact ⟨_, rfl, Below.refl _ _, rfl⟩
        · have e0 := hd 13 (by simp) (by kernel_rfl)
          simp only [RR, List.nil_append, List.cons_append, List.getD_cons_succ, List.getD_cons_zero] at e0
          have e1 := hd 11 (by simp) (by kernel_rfl)
          simp only [RR, List.nil_append, List.cons_append, List.getD_cons_succ, List.getD_cons_zero] at e1
          obtain ⟨hl, g1, e1⟩ := e1
          subst e0 e1
          have HCX := Lib.hid (HC.out wx hg)
          have hox := HOWN.out wx hg _ _ O3.out
          clear hd
          refine app_step rfl (.tmp 85) (.tmp 87) rfl wr.heap.size w.heap.size m g t0 (co - 1) g1 _ vs' _ i0 hi hz0 hz1 hz2 (by go_simp) hl (by go_simp) HVL.out HCX.out H1V.out hox ML3.out hm1 hm3 ?_
          intro v' w' hgd hbw
          refine ⟨_, rfl, hbw, ?_⟩
          simp only [RR, List.nil_append, List.cons_append, List.length_cons, List.length_nil, Nat.zero_add, Nat.reduceAdd]
          exact hgd
        · have e0 := hd 4 (by simp) (by kernel_rfl)
          simp only [RR, List.nil_append, List.cons_append, List.getD_cons_succ, List.getD_cons_zero] at e0
          clear hd
          go_wp2
          exact ⟨_, rfl, Below.refl _ _, e0⟩
        · have e0 := hd 9 (by simp) (by kernel_rfl)
          simp only [RR, List.nil_append, List.cons_append, List.getD_cons_succ, List.getD_cons_zero] at e0
          clear hd
          go_wp2
          exact ⟨_, rfl, Below.refl _ _, e0⟩
        · have e0 := hd 14 (by simp) (by kernel_rfl)
          simp only [RR, List.nil_append, List.cons_append, List.getD_cons_succ, List.getD_cons_zero] at e0
          clear hd
          go_wp2
          exact ⟨_, rfl, Below.refl _ _, e0⟩
        · intro wx hg hf
          have g1 := hf 15 (by simp)
          have g2 := hf 16 (by simp)
          have g3 := hf 17 (by simp)
          simp only [RR, List.nil_append, List.cons_append, List.getD_cons_succ, List.getD_cons_zero] at g1 g2 g3
          clear hf
          go_wp2
          go_simp
          go_meet
          exact ⟨g1, g2, g3, ((Below.refl wr.heap.size wr).drew).trans hg⟩
      case rest =>
        obtain ⟨⟨b1, e1, rfl, G1⟩, ⟨b2, e2, rfl, G2⟩, ⟨b3, e3, rfl, G3⟩, hbc⟩ := hcut
        have hcs := hbc.size
        have HW : Hid (Below w.heap.size w wc) := below_later hb hs1 (below_later hnx hsz hbc)
        have RA : RingAt wc wc.heap.size ra a := ring_wider ((hra.below hnx (Nat.le_refl _)).below hbc hsz) (by omega)
        have RV : RingAt wc wc.heap.size vo (rotTo a f k) := ring_wider ((ring_at_own (rotTo_length a f k).symm hv).below hbc (Nat.le_refl _)) hcs
        have RU : RingAt wc wc.heap.size uo (revTo a k) := ring_wider ((ring_at_own (revTo_length a k).symm hu).below hbc (Nat.le_refl _)) hcs
        have hTT := HT.out
        have hna := HN.out
        have hlen := hTT.1
        have ha6 : ∀ l ∈ a :: r, l.length ≤ 6 := fun l hl => (hTT.2 l hl).2.1
        have hr6 : ∀ l ∈ r, l.length ≤ 6 := fun l hl => ha6 l (by simp [hl])
        obtain ⟨hA3, hTa⟩ := hTT.2 a (by simp)
        have hTR : TameR' 60 a := hTa.2
        have hlr : r.length ≤ 2 := by simp at hlen; omega
        obtain ⟨z1, z2⟩ := tot_small (ls := a :: r) hlen ha6
        obtain ⟨z3, z4⟩ := tot_small (ls := rotTo a f k :: r) (by simp; omega) (fun l hl => (List.mem_cons.1 hl).elim (fun e => by rw [e, rotTo_length]; omega) (fun h => hr6 l h))
        obtain ⟨z5, z6⟩ := tot_small (ls := revTo a k :: r) (by simp; omega) (fun l hl => (List.mem_cons.1 hl).elim (fun e => by rw [e, revTo_length]; omega) (fun h => hr6 l h))
        have hmm : m = r.length + 1 := HM.out.symm
        have hx1 : 499999 ≤ 500000 + p % 62 - 1 ∧ 500000 + p % 62 - 1 ≤ 500060 := by omega
        have hy1' : 499999 ≤ 500000 + q % 62 - 1 ∧ 500000 + q % 62 - 1 ≤ 500060 := by omega
        obtain ⟨qa, qb⟩ := rot_rings (l := a) (by omega) (by omega) f (500000 + p % 62 - 1) (500000 + q % 62 - 1)
        obtain ⟨qc, qd⟩ := rev_rings (l := a) (by omega) (by omega) (tame_in hTR (by omega)) (x := 500000 + p % 62 - 1) (y := 500000 + q % 62 - 1) (by omega) (by omega)
        rw [hna] at qa qb qc qd
        obtain ⟨t1, t2⟩ := turned (m := rotTo a f k) hTT (by rw [rotTo_length, hna]) (rot_mem (by omega)) hx1 hy1' (by rw [hna]; exact qa) (by rw [hna]; exact qb)
        obtain ⟨t3, t4⟩ := turned (m := revTo a k) hTT (by rw [revTo_length, hna]) (rev_mem (by omega)) hx1 hy1' (by rw [hna]; exact qc) (by rw [hna]; exact qd)
        have ar := rot_area (l := a) (by omega) (by omega) hTR f
        obtain ⟨ab, an, ax⟩ := rev_area (l := a) (by omega) (by omega) hTR
        rw [hna] at ar ab
        obtain ⟨P, hP⟩ : ∃ P, insideF (a :: r) (500000 + p % 62 - 1) (500000 + q % 62 - 1) = P := ⟨_, rfl⟩
        obtain ⟨O, hO⟩ : ∃ P, onF (a :: r) (500000 + p % 62 - 1) (500000 + q % 62 - 1) = P := ⟨_, rfl⟩
        obtain ⟨V, hV⟩ : ∃ V, area2F a = V := ⟨_, rfl⟩
        have I1 := insV_of (c := e1) G1 (m := m) hmm z1 z2 _ _ P hP
        have I2 := insV_of (c := e2) G2 (m := m) hmm z3 z4 _ _ P (t1.trans hP)
        have I3 := insV_of (c := e3) G3 (m := m) hmm z5 z6 _ _ P (t3.trans hP)
        have J1 := onV_of (c := e1) G1 (m := m) hmm z1 z2 _ _ O hO
        have J2 := onV_of (c := e2) G2 (m := m) hmm z3 z4 _ _ O (t2.trans hO)
        have J3 := onV_of (c := e3) G3 (m := m) hmm z5 z6 _ _ O (t4.trans hO)
        have A1 := areV_of (c := ca) (n := k) RA hna.symm (by omega) V hV
        have A2 := areV_of (c := vc) (n := k) RV (rotTo_length a f k).symm (by omega) V (ar.trans hV)
        have A3 := areV_of (c := uc) (n := k) RU (revTo_length a k).symm (by omega) (-V) (ab.trans (by rw [hV]))
        rw [hV] at an ax
        have hbb : Below wc.heap.size wc wc := Below.refl _ _
        clear G1 G2 G3 RA RV RU hTT hna hlen ha6 hr6 hA3 hTa hTR hlr z1 z2 z3 z4 z5 z6 hmm hx1 hy1' qa qb qc qd t1 t2 t3 t4 ar ab hP hO hV hv hu hra hbc hcs hnx hb
        cases P <;> cases O
        all_goals
          go_wp2_with (first
            | (go_at_call 12; (with_reducible refine (InsV.use I1 ?_).mono ?_); assumption; rintro e w' ⟨rfl, hb'⟩)
            | (go_at_call 12; (with_reducible refine (InsV.use I2 ?_).mono ?_); assumption; rintro e w' ⟨rfl, hb'⟩)
            | (go_at_call 12; (with_reducible refine (InsV.use I3 ?_).mono ?_); assumption; rintro e w' ⟨rfl, hb'⟩)
            | (go_at_call 13; (with_reducible refine (InsV.use J1 ?_).mono ?_); assumption; rintro e w' ⟨rfl, hb'⟩)
            | (go_at_call 13; (with_reducible refine (InsV.use J2 ?_).mono ?_); assumption; rintro e w' ⟨rfl, hb'⟩)
            | (go_at_call 13; (with_reducible refine (InsV.use J3 ?_).mono ?_); assumption; rintro e w' ⟨rfl, hb'⟩)
            | (go_at_call 15; (with_reducible refine (AreV.use A1 ?_).mono ?_); assumption; rintro e w' ⟨rfl, hb'⟩)
            | (go_at_call 15; (with_reducible refine (AreV.use A2 ?_).mono ?_); assumption; rintro e w' ⟨rfl, hb'⟩)
            | (go_at_call 15; (with_reducible refine (AreV.use A3 ?_).mono ?_); assumption; rintro e w' ⟨rfl, hb'⟩)
            | (go_at_call 11; refine (awake_any _).mono ?_; rintro e w' ⟨rfl, hbw⟩))
          go_ret
          exact ⟨rfl, below_later HW.out HW.out.size (below_later hb' hb'.size hbw)⟩
end Go.Proofs.Ytnnfkdajbaicoaa.polyTurned
