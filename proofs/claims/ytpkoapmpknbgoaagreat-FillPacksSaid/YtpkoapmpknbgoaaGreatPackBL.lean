/- Joined: PcBq, PdGq, PcCq, PlAq, PlBq, PdHq, PdFq, PkAq, PkBq, NwCq, PlCq, PlDq, PlEq, BdP, BdB, BdC, NcBq, NwAq, NwBq, NwDq, WdL, WdJ, WdK, NfK, NfMn, NfPn, NfSn, NfTn: contracts and plain laws, each with its own heading below. -/
import Derived.Test.YtpkoapmpknbgoaaGreatPackBK
import Derived.Test.YtpkoapmpknbgoaaGreatPackBF
import Derived.Test.YtpkoapmpknbgoaaGreatPackBJ
import Derived.Test.YtpkoapmpknbgoaaGreatPackBC
import Derived.Test.YtpkoapmpknbgoaaGreatPackBE
import Derived.Lib.MinMax
import Derived.Test.YtpkoapmpknbgoaaGreatPackBD
set_option maxRecDepth 100000
set_option maxHeartbeats 16000000
namespace Go.Proofs.YtpkoapmpknbgoaaGreat
section
open Go.RowKit Go.Lib Go.Sort
theorem sort_row {w : World} {base n c : Nat} {ao : Option Addr} {l : List Int} (h : w.ownsRow base 35 1 (.slice ao n c) n (uV l)) (hl : l.length = n) (_hb : base <= w.heap.size) (hn : n <= 1000000) :
  Calls Tryz.prog 69 #[.slice ao n c] w fun e w' => e = .returned (.tuple #[]) /\ w'.ownsRow base 35 1 (.slice ao n c) n (uV (srt l)) /\ Below base w w' := by
 by_cases h0 : n = 0
 ·subst h0
  obtain rfl : l = [] := List.eq_nil_of_length_eq_zero hl;refine (u64_Sort_int_nil ao c w).mono ?_;rintro e w' ⟨rfl, rfl⟩;exact ⟨rfl, by rw [show srt [] = [] by simp [srt]]; exact h, Below.refl _ _⟩
 ·obtain ⟨g, rfl, hg0, hg, hnc, hH⟩ := holds_own (by omega) h
  subst hl;refine (u64_slices_Sort_int g 0 c l w hH hg (by omega)).mono ?_;rintro e w' ⟨rfl, q, os, rfl⟩;have h1 := ownsRow_putRow (q := q) (k := l.length) (ys := srt l) h (by rw [srt_length]) (Nat.le_refl _);rw [show (srt l).take l.length = srt l from List.take_of_length_le (by rw [srt_length]; exact Nat.le_refl _)] at h1;have hsz : (putRow encU (Sort.ahead w q) g 0 (srt l).toArray).heap.size = w.heap.size := by simp [putRow, mapBlock, Sort.ahead]
  refine ⟨rfl, own_later h1 (below_growU (Below.refl _ _) (Nat.le_refl _)), ?_⟩;exact below_growU (below_putRow (Below.refl _ _) hg0) (by show base <= (putRow encU (Sort.ahead w q) g 0 (srt l).toArray).heap.size; omega)
theorem append_words_at {w : World} {base n m c : Nat} {v : Value} {xs l : List Int} {ao : Option Addr} (hown : w.ownsRow base 35 1 v n (uV xs)) (hw : WordsAt w w.heap.size ao l) (hl : l.length = m) (hz : ao = none -> m = 0 /\ c = 0) (hb : base <= w.heap.size) (hn : n + m <= 100000000) :
  ∃ v' w', (Builtin.append_ #[22, 22] 22 #[v, .slice ao m c]).run Tryz.prog w = .ok v' w' /\ w'.ownsRow base 35 1 v' (n + m) (uV (xs ++ l)) /\ w.grownBy w' v.ownBlock /\ (v'.ownBlock = v.ownBlock ∨ v'.ownBlock = some w.heap.size) := by
 obtain ⟨i0, hi, hz0, hz1, hz2⟩ := info_parts info_u;have hu : uV (xs ++ l) = uV xs ++ uV l := by simp [uV]
 cases ao with
 | none =>
  obtain ⟨rfl, rfl⟩ := hz rfl;obtain rfl : l = [] := List.eq_nil_of_length_eq_zero hl;refine ⟨v, w, run_append_owned_none w base 22 22 35 i0 1 Tryz.underlying22 hi v n (uV xs) hown, by simpa using hown, ⟨rfl, rfl, rfl, Nat.le_refl _, fun _ _ _ => rfl⟩, .inl rfl⟩
 | some ad =>
  have hnews : ∀ j u, (uV l)[j]? = some u -> w.cell? (ad.add j) = some u := fun j u hj => by
   have hjl : j < l.length := by have := (List.getElem?_eq_some_iff.1 hj).1; rwa [uV_len] at this
   rw [uV_get l j hjl] at hj;cases hj;obtain ⟨b, off, e, _, hc⟩ := hw (by omega);cases e;have hadd : (⟨b, off, none⟩ : Addr).add j = ⟨b, off + j, none⟩ := by unfold Addr.add; split <;> simp_all
   rw [hadd]; exact hc j hjl
  obtain ⟨v', w', hr, h2, h3, _, h5⟩ := run_append_own_at (P := Tryz.prog) w base 22 22 35 i0 (.int .u64 0) 1 8 Tryz.underlying22 hi hz0 hz1 hz2 rfl (by decide) v n (uV xs) hown ad m c (uV l) (by rw [uV_len, hl, Nat.mul_one]) hnews (uV_cell l) (by unfold maxLen; omega) (by omega) hb;exact ⟨v', w', hr, by rw [hu]; exact h2, h3, h5⟩
theorem own_turn' {S : Nat -> Prop} {w w' : World} {base n size : Nat} {e : TypeId} {v : Value} {xs : List Value} (h : w.ownsRow base e size v n xs) (ht : Turn S w w') (hs : ∀ k, v.ownBlock = some k -> ¬ S k) : w'.ownsRow base e size v n xs := by
 refine ⟨h.1, ?_⟩;rcases h.2 with h1 | ⟨g, cap, cur, hv, hbg, hh, hx⟩
 ·exact .inl h1
 ·exact .inr ⟨g, cap, cur, hv, hbg, (ht.2.2.2.2 g (Array.getElem?_eq_some_iff.1 hh).1 (hs g (by rw [hv]; rfl))).trans hh, hx⟩
theorem turn_grown {w w' : World} {row : Option Nat} (h : w.grownBy w' row) : Turn (fun k => some k = row) w w' := ⟨h.os, h.tape, h.output, h.size, fun k hk hs => h.block k hk hs⟩
def PkSt (B r : Nat) (w : World) (ov gv : Value) (o g M : List Int) : Prop :=
 (∃ ro rc, HeapAt w r ro rc M /\ ∀ k, Foot r ro k -> B <= k /\ k < w.heap.size /\ ov.ownBlock ≠ some k /\ gv.ownBlock ≠ some k) /\ w.ownsRow B 35 1 ov o.length (uV o) /\ w.ownsRow B 35 1 gv g.length (uV g) /\ (ov.ownBlock = none ∨ ov.ownBlock ≠ gv.ownBlock)
theorem HeapAt.below {w w' : World} {r c : Nat} {vo : Option Addr} {L : List Int} (h : HeapAt w r vo c L) (hb : Below w.heap.size w w') : HeapAt w' r vo c L := ⟨h.1.below hb, h.2⟩
theorem PkSt.later {B r : Nat} {w w' : World} {ov gv : Value} {o g M : List Int} (h : PkSt B r w ov gv o g M) (hb : Below w.heap.size w w') : PkSt B r w' ov gv o g M := by
 obtain ⟨⟨ro, rc, h1, h2⟩, h3, h4, h5⟩ := h;exact ⟨⟨ro, rc, h1.below hb, fun k hk => ⟨(h2 k hk).1, Nat.lt_of_lt_of_le (h2 k hk).2.1 hb.size, (h2 k hk).2.2⟩⟩, own_later h3 hb, own_later h4 hb, h5⟩
theorem PkSt.turned {B r : Nat} {w w' : World} {ov gv : Value} {o g M M' : List Int} (h : PkSt B r w ov gv o g M) (hs : ∀ ro rc, HeapAt w r ro rc M -> ∃ ro' rc', HeapAt w' r ro' rc' M' /\ Grows w r ro ro' /\ Turn (Foot r ro) w w' /\ (∀ g o s, ro' = some ⟨g, o, s⟩ -> g < w'.heap.size)) :
  PkSt B r w' ov gv o g M' /\ Below B w w' := by
 obtain ⟨⟨ro, rc, h1, h2⟩, h3, h4, h5⟩ := h;obtain ⟨ro', rc', g1, g2, g3, g4⟩ := hs ro rc h1;have k1 : ∀ k, ov.ownBlock = some k -> ¬ Foot r ro k := fun k hk hf => (h2 k hf).2.2.1 hk
 have k2 : ∀ k, gv.ownBlock = some k -> ¬ Foot r ro k := fun k hk hf => (h2 k hf).2.2.2 hk
 have hBw : B <= w.heap.size := by have := h2 r (.inl rfl); omega
 have hfoot : ∀ k, Foot r ro' k -> k < w'.heap.size /\ (k < w.heap.size -> Foot r ro k) := fun k hk => by
  rcases hk with rfl | ⟨oo, s, e⟩
  ·exact ⟨g1.1.lt, fun _ => .inl rfl⟩
  ·exact ⟨g4 k oo s e, fun hlt => g2 k oo s e hlt⟩
 refine ⟨⟨⟨ro', rc', g1, fun k hk => ?_⟩, own_turn' h3 g3 k1, own_turn' h4 g3 k2, h5⟩, g3.below hBw fun k hk hf => by have := (h2 k hf).1; omega⟩;obtain ⟨f1, f2⟩ := hfoot k hk;rcases Nat.lt_or_ge k w.heap.size with hlt | hge
 ·exact ⟨(h2 k (f2 hlt)).1, f1, (h2 k (f2 hlt)).2.2⟩
 ·refine ⟨by omega, f1, fun e => ?_, fun e => ?_⟩
  ·have := (h3.lt k e).2; omega
  ·have := (h4.lt k e).2; omega
theorem row_block {w : World} {r c : Nat} {vo : Option Addr} {L : List Int} (h : RowAt w r vo c L) (hc : 0 < c) : ∀ g o s, vo = some ⟨g, o, s⟩ -> g < w.heap.size := fun g o s e => by
 obtain ⟨g', e2, -, h1, -⟩ := h.2.2.2.2.1 hc;rw [e2] at e;cases e;exact h1
theorem heap_same {w : World} {r rc rc2 : Nat} {ro ro2 : Option Addr} {M : List Int} (h : HeapAt w r ro rc M) (h2 : HeapAt w r ro2 rc2 M) : ro2 = ro /\ rc2 = rc := by
 have a := h.1.1;have b := h2.1.1;rw [b] at a;cases a;exact ⟨rfl, rfl⟩
theorem PkSt.popped {B r ml : Nat} {w w' : World} {ov gv : Value} {o g M : List Int} {x : Int} {e : Ending} {ro : Option Addr} {rc : Nat} (h : PkSt B r w ov gv o g M) (hh : HeapAt w r ro rc M) (hm : M.length = ml + 1) (hp : Popped w r ro rc M x e w') :
  e = .returned (.iface 35 (.int .u64 x)) /\ ∃ M', (x :: M').Perm M /\ PkSt B r w' ov gv o g M' /\ Below B w w' := by
 obtain ⟨he, M', p1, p2, p3⟩ := hp;refine ⟨he, M', p2, h.turned (M' := M') fun ro2 rc2 h2 => ?_⟩;obtain ⟨rfl, rfl⟩ := heap_same hh h2;exact ⟨ro2, rc2, p1, fun g o s e hlt => .inr ⟨o, s, e⟩, p3, fun g o s e => Nat.lt_of_lt_of_le (row_block h2.1 (by have := h2.1.2.2.1; omega) g o s e) p3.2.2.2.1⟩
theorem PkSt.pushed {B r : Nat} {w w' : World} {ov gv : Value} {o g M : List Int} {x : Int} {e : Ending} {ro : Option Addr} {rc : Nat} (h : PkSt B r w ov gv o g M) (hh : HeapAt w r ro rc M) (hp : Pushed w r ro M x e w') :
  e = .returned (.tuple #[]) /\ ∃ M', M'.Perm (x :: M) /\ PkSt B r w' ov gv o g M' /\ Below B w w' := by
 obtain ⟨he, ro', rc', M', p1, p2, p3, p4⟩ := hp;refine ⟨he, M', p2, h.turned (M' := M') fun ro2 rc2 h2 => ?_⟩;obtain ⟨rfl, rfl⟩ := heap_same hh h2;exact ⟨ro', rc', p1, p3, p4, row_block p1.1 (by have := p1.1.2.2.1; rw [p2.length_eq] at this; simp at this; omega)⟩
theorem PkSt.out {B r : Nat} {w w' : World} {ov ov' gv : Value} {o o' g M : List Int} (h : PkSt B r w ov gv o g M) (hown : w'.ownsRow B 35 1 ov' o'.length (uV o')) (hg : w.grownBy w' ov.ownBlock) (hat : ov'.ownBlock = ov.ownBlock ∨ ov'.ownBlock = some w.heap.size) : PkSt B r w' ov' gv o' g M := by
 obtain ⟨⟨ro, rc, h1, h2⟩, h3, h4, h5⟩ := h;have hT := turn_grown hg;refine ⟨⟨ro, rc, ⟨h1.1.kept hT fun k hk e => (h2 k hk).2.2.1 e.symm, h1.2⟩, fun k hk => ⟨(h2 k hk).1, Nat.lt_of_lt_of_le (h2 k hk).2.1 hg.size, ?_, (h2 k hk).2.2.2⟩⟩, hown, own_turn' h4 hT fun k hk e => ?_, ?_⟩
 ·rcases hat with e | e
  ·rw [e]; exact (h2 k hk).2.2.1
  ·rw [e]; intro e2; cases e2; have := (h2 _ hk).2.1; omega
 ·rcases h5 with h5 | h5
  ·rw [h5] at e; cases e
  ·exact h5 (e.symm.trans hk.symm)
 ·rcases hat with e | e
  ·rw [e]; exact h5
  ·right; rw [e]; intro e2; have := (h4.lt _ e2.symm).2; omega
theorem PkSt.grp {B r : Nat} {w w' : World} {ov gv gv' : Value} {o g g' M : List Int} (h : PkSt B r w ov gv o g M) (hown : w'.ownsRow B 35 1 gv' g'.length (uV g')) (hg : w.grownBy w' gv.ownBlock) (hat : gv'.ownBlock = gv.ownBlock ∨ gv'.ownBlock = some w.heap.size) : PkSt B r w' ov gv' o g' M := by
 obtain ⟨⟨ro, rc, h1, h2⟩, h3, h4, h5⟩ := h;have hT := turn_grown hg;refine ⟨⟨ro, rc, ⟨h1.1.kept hT fun k hk e => (h2 k hk).2.2.2 e.symm, h1.2⟩, fun k hk => ⟨(h2 k hk).1, Nat.lt_of_lt_of_le (h2 k hk).2.1 hg.size, (h2 k hk).2.2.1, ?_⟩⟩, own_turn' h3 hT fun k hk e => ?_, hown, ?_⟩
 ·rcases hat with e | e
  ·rw [e]; exact (h2 k hk).2.2.2
  ·rw [e]; intro e2; cases e2; have := (h2 _ hk).2.1; omega
 ·rcases h5 with h5 | h5
  ·rw [h5] at hk; cases hk
  ·exact h5 (hk.trans e)
 ·rcases h5 with h5 | h5
  ·exact .inl h5
  ·right
   rcases hat with e | e
   ·rw [e]; exact h5
   ·rw [e]; intro e2; have := (h3.lt _ e2).2; omega
theorem PkSt.none {B r : Nat} {w : World} {ov gv : Value} {o g M : List Int} (h : PkSt B r w ov gv o g M) : PkSt B r w ov (.slice none 0 0) o [] M := by
 obtain ⟨⟨ro, rc, h1, h2⟩, h3, h4, h5⟩ := h;refine ⟨⟨ro, rc, h1, fun k hk => ⟨(h2 k hk).1, (h2 k hk).2.1, (h2 k hk).2.2.1, fun e => by cases e⟩⟩, h3, World.ownsRow_nil _ _ _ _, ?_⟩;by_cases e : ov.ownBlock = Option.none
 ·exact .inl e
 ·exact .inr e
theorem heap_dn {L : List Int} (h : Dn L) : Heap L.length L := fun j h1 h2 => by
 have hp : par j < j := by unfold par; omega
 rw [less_not];unfold gw;rw [List.getD_eq_getElem?_getD, List.getElem?_eq_getElem h2, List.getD_eq_getElem?_getD, List.getElem?_eq_getElem (by omega), Option.getD_some, Option.getD_some];have := List.pairwise_iff_getElem.1 h (par j) j (by omega) h2 hp;omega
theorem heap_max {L : List Int} (h : Heap L.length L) : ∀ x ∈ L, x <= gw L 0 := fun x hx => by
 obtain ⟨i, hi, rfl⟩ := mem_gw hx;have := heap_min h i hi
 rwa [less_not] at this
end
section
open Go.RowKit Go.Lib Wd
def dsN : Nat -> Nat -> E2 -> List Int
 | 0, k, z => [(wordN k z : Int)]
 | d + 1, k, z => (List.range 7).flatMap fun i => dsN d (k + 1) (downE z i)
def dsV (R : Nat) (v : Int) : List Int := dsN (R - rW v.toNat) (rW v.toNat) (zW v.toNat)
def sprE (l : List Int) (r : Int) : Int := if szE l r = 0 then (if 20000 < sumS r.toNat l then 7 else 0) else szE l r
def sprL (l : List Int) (r : Int) : List Int := if sprE l r = 0 then setF (l.flatMap (dsV r.toNat)) else []
theorem szE_zero {l : List Int} {r : Int} (h : szE l r = 0) : ∃ R : Nat, r = R /\ R <= 12 /\ allW l = true /\ (∀ v ∈ l, rW v.toNat <= R) /\ szN l r = sumS R l := by
 have hN : szN l r = sumS r.toNat l := by unfold szN; rw [if_pos h]
 unfold szE at h
 split at h
 ·cases h
 ·next h1 =>
  split at h
  ·cases h
  ·next h2 =>
   split at h
   ·cases h
   ·next h3 =>
    refine ⟨r.toNat, by omega, by omega, by simpa using h1, fun v hv => ?_, hN⟩;have := List.any_eq_false.1 (Bool.eq_false_iff.2 h2) v hv;simp at this;omega
end
section
open Go.RowKit Go.Lib Go.Sort Wd
def cmpE (l : List Int) : Int := if 20000 < l.length then 7 else if l = [] then 0 else alkE l
def cmpL (l : List Int) : List Int := if cmpE l = 0 then packF (rW (l.getD 0 0).toNat) l else []
def ToldP (w : World) (L : List Int) (err : Int) (e : Ending) (w' : World) : Prop :=
 ∃ ao c, e = .returned (.tuple #[.slice ao L.length c, .int .i64 err]) /\ w'.ownsRow w.heap.size 35 1 (.slice ao L.length c) L.length (uV L) /\ Below w.heap.size w w'
theorem chk_sized {r : Int} : ∀ {l : List Int}, chkF r l = 0 -> ∀ v ∈ l, isW v.toNat = true /\ (rW v.toNat : Int) = r
 | [], _, v, hv => by cases hv
 | x :: l, h, v, hv => by
  unfold chkF at h
  split at h
  ·next h1 =>
   split at h
   ·next h2 =>
    rcases List.mem_cons.1 hv with rfl | hv
    ·exact ⟨h1, h2⟩
    ·exact chk_sized h v hv
   ·cases h
  ·cases h
theorem alk_sized {l : List Int} (h64 : In64 l) (h : alkE l = 0) (h0 : l ≠ []) : rW (l.getD 0 0).toNat <= 12 /\ Sized (rW (l.getD 0 0).toNat) l := by
 unfold alkE at h
 split at h
 ·next ha =>
  have hw0 : isW (l.getD 0 0).toNat = true := List.all_eq_true.1 ha _ (getD_mem (List.length_pos_iff.2 h0));have e : resW (l.getD 0 0).toNat = (rW (l.getD 0 0).toNat : Int) := by unfold resW; rw [if_pos hw0]
  rw [e] at h;have hc := chk_sized h;refine ⟨((isW_iff _).1 hw0).2.1, fun v hv => ?_⟩;obtain ⟨c1, c2⟩ := hc v hv;obtain ⟨d1, d2⟩ := cell_word c1;have e2 : rW v.toNat = rW (l.getD 0 0).toNat := by omega
  have := h64 v hv;refine ⟨zW v.toNat, by rw [<- e2]; exact d1, ?_⟩;rw [<- e2, d2]; omega
 ·cases h
theorem rev_row {w : World} {r c n : Nat} {vo : Option Addr} {L : List Int} (h : RowAt w r vo c L) (hn : L.length = n) (hbig : n <= 1000000) :
  Calls Tryz.prog 81 #[.slice vo n c] w fun e w' => e = .returned (.tuple #[]) /\ RowAt w' r vo c L.reverse /\ Turn (Foot r vo) w w' := by
 by_cases h0 : n = 0
 ·subst h0
  obtain rfl : L = [] := List.eq_nil_of_length_eq_zero hn;refine (rev_nil vo c w).mono ?_;rintro e w' ⟨rfl, rfl⟩;exact ⟨rfl, h, Turn.refl _ _⟩
 ·have hnc : n <= c := by have := h.2.2.1; omega
  obtain ⟨g, rfl, hgr, hU⟩ := h.2.2.2.2.1 (by omega);refine (rev_any hU hn hnc hbig).mono ?_;rintro e w' ⟨rfl, hU2, hT⟩;obtain ⟨k0, k1, k2, k3, k4, k5, k6⟩ := h;have er : w'.heap[r]? = w.heap[r]? := hT.2.2.2.2 r (World.block_lt_of_cell? w _ k0) (fun e => hgr e.symm);refine ⟨rfl, ⟨by rw [List.length_reverse]; exact (World.cell?_of_block (a := ⟨r, 0, none⟩) er).trans k0, fun j => (World.frozen?_of_block (a := ⟨r, j, none⟩) er).trans (k1 j), by rw [List.length_reverse]; exact k2, k3, fun _ => ⟨g, rfl, hgr, hU2⟩, fun v hv => k5 v (List.mem_reverse.1 hv), by rw [List.length_reverse]; exact k6⟩, ?_⟩;exact hT.trans (T := fun _ => False) (Turn.refl _ _) (fun _ _ h => h.elim) |>.trans (T := fun _ => False) (Turn.refl _ _) (fun _ _ h => h.elim) |> fun h => ⟨h.1, h.2.1, h.2.2.1, h.2.2.2.1, fun k hk hs => h.2.2.2.2 k hk fun e => hs (by subst e; exact .inr ⟨0, none, rfl⟩)⟩
theorem word_lt {k : Nat} {w : Int} (h : ∃ z, okB k z = true /\ w = (wordN k z : Int)) : ∃ u : Nat, w = u /\ u < 18446744073709551616 := by
 obtain ⟨z, hz, rfl⟩ := h;exact ⟨_, rfl, by have := (wordN_lt hz).1; omega⟩
theorem row_new {w : World} {so : Option Addr} {m : Nat} {L : List Int} (hL : L.length = m) (h1 : 0 < m -> ∃ g, so = some ⟨g, 0, none⟩ /\ RowU w g m L) (h2 : so = none -> m = 0) (h64 : In64 L) (hm : m <= 1000000) : RowAt (w.alloc (.cells #[.slice so m m] 123)) w.heap.size so m L := by
 have hnew := heap_new w (.cells #[.slice so m m] 123) _ rfl;refine ⟨by rw [hL]; exact cell_of_row _ _ 0 _ _ _ hnew, fun j => by unfold World.frozen?; rw [hnew]; simp, by omega, h2, fun h0 => ?_, h64, by omega⟩;obtain ⟨g, e, hU⟩ := h1 h0;exact ⟨g, e, by have := hU.1; omega, hU.kept (S := fun _ => False) (Turn.of_below ((Below.refl _ _).alloc (Nat.le_refl _) _)) fun h => h⟩
theorem own_val {w : World} {B n : Nat} {ao : Option Addr} {c : Nat} {l : List Int} (h : w.ownsRow B 35 1 (.slice ao n c) n (uV l)) (hz : 0 < n) (hl : l.length = n) : ∃ g, ao = some ⟨g, 0, none⟩ /\ g < w.heap.size /\ w.cell? ⟨g, 0, none⟩ = some (.int .u64 (l.getD 0 0)) := by
 obtain ⟨ao', c', e, -, h2⟩ := own_form h;cases e;obtain ⟨g, rfl, -, h3, h4⟩ := h2 hz;exact ⟨g, rfl, h3, h4 0 _ (uV_get l 0 (by omega))⟩
theorem own_none {w : World} {B n c : Nat} {ao : Option Addr} {xs : List Value} (h : w.ownsRow B 35 1 (.slice ao n c) n xs) : ao = none -> n = 0 /\ c = 0 := fun e => by
 subst e;rcases h.2 with ⟨h1, -⟩ | ⟨g, cap, cur, hv, -⟩
 ·cases h1; exact ⟨rfl, rfl⟩
 ·cases hv
theorem flush_none (o : List Int) (x : Int) : mFlush ⟨o, [], []⟩ x = ⟨o, [], []⟩ := by unfold mFlush; rw [if_neg (by simp)]
theorem flush_no {o g : List Int} {x : Int} (h : broB (g.getD 0 0) x = true) : mFlush ⟨o, g, []⟩ x = ⟨o, g, []⟩ := by unfold mFlush; rw [if_neg (fun h2 => by have h3 := h2.2; rw [h] at h3; cases h3)]
theorem flush_yes {o g : List Int} {x : Int} (h0 : g ≠ []) (h : broB (g.getD 0 0) x = false) : mFlush ⟨o, g, []⟩ x = ⟨o ++ g, [], []⟩ := by unfold mFlush; rw [if_pos ⟨h0, h⟩]
theorem compact_any (ao : Option Addr) (c : Nat) (l : List Int) (w : World) (B : Nat) (h : WordsAt w B ao l) (hB : B <= w.heap.size) (hn : l.length <= 1000000) (h64 : In64 l) :
  Calls Tryz.prog 48 #[.slice ao l.length c] w (ToldP w (cmpL l) (cmpE l)) := by
 obtain ⟨i0, hi, hz0, hz1, hz2⟩ := info_parts info_u;have HNIL : Hid (∀ err w', Below w.heap.size w w' -> cmpE l = err -> err ≠ 0 -> ToldP w (cmpL l) (cmpE l) (.returned (.tuple #[.slice none 0 0, .int .i64 err])) w') := fun err w' hb he h0 => by
  have : cmpL l = [] := by unfold cmpL; rw [if_neg (by rw [he]; exact h0)]
  rw [this, he];exact ⟨none, 0, rfl, World.ownsRow_nil _ _ _ _, hb⟩
 obtain ⟨n, hnn⟩ : ∃ n, l.length = n := ⟨_, rfl⟩;have HN := Lib.hid hnn;have HW := Lib.hid h;have H64 := Lib.hid h64;have hcase : 20000 < n ∨ (n <= 20000 /\ 0 < n /\ alkE l ≠ 0) ∨ (n <= 20000 /\ n = 0) ∨ (n <= 20000 /\ 0 < n /\ alkE l = 0) := by
  by_cases h1 : 20000 < n
  ·exact .inl h1
  ·by_cases h2 : n = 0
   ·exact .inr (.inr (.inl ⟨by omega, h2⟩))
   ·by_cases h3 : alkE l = 0
    ·exact .inr (.inr (.inr ⟨by omega, by omega, h3⟩))
    ·exact .inr (.inl ⟨by omega, by omega, h3⟩)
 have HAL : Hid (0 < n -> ∀ w, B <= w.heap.size -> WordsAt w B ao l -> Calls Tryz.prog 79 #[.slice ao n c] w fun e w' => e = .returned (.int .i64 (alkE l)) /\ Below w.heap.size w w') := fun h0 wx hb hwx => by
  have := alike_any ao c l wx B hwx hb (by omega) (by omega) h64
  rwa [hnn] at this
 rw [hnn] at hn ⊢;clear h h64 hnn;rcases hcase with hbig | ⟨hs, h0, hE⟩ | hcase
 ·have q1 : decide (20000 < (n : Int)) = true := decide_eq_true (by omega)
  have q1n : decide (20000 < n) = true := decide_eq_true (by omega);have HF := Lib.hid (HNIL.out 7 w (Below.refl _ _) (by unfold cmpE; rw [if_pos (by rw [HN.out]; exact hbig)]) (by decide));clear hbig
  go_enter Tryz.func48, Tryz.ntmps48
  go_wp2;go_ret2;exact HF.out
 ·have q1 : decide (20000 < (n : Int)) = false := decide_eq_false (by omega)
  have q1n : decide (20000 < n) = false := decide_eq_false (by omega);have q2 : decide (0 < (n : Int)) = true := decide_eq_true (by omega);have q2n : decide (0 < n) = true := decide_eq_true (by omega);have hA := HAL.out h0 w hB HW.out;have hF := fun w' hb => HNIL.out (alkE l) w' hb (by unfold cmpE; rw [if_neg (by rw [HN.out]; omega), if_neg (fun e => by have := HN.out; rw [e] at this; simp at this; omega)]) hE
  generalize alkE l = E at *;have q3 : (E != 0) = true := by simp [hE]
  have HA := Lib.hid hA;have HF := Lib.hid hF;clear hs h0 hE hA hF
  go_enter Tryz.func48, Tryz.ntmps48
  go_wp2_with fail
  refine HA.out.mono ?_;rintro e w1 ⟨rfl, hb1⟩;have HFF := Lib.hid (HF.out w1 hb1);clear hb1;go_wp2;go_ret2;exact HFF.out
 ·
  obtain ⟨r, hr, hsz, hEr, hLr⟩ : ∃ r, r <= 12 /\ Sized r l /\ cmpE l = 0 /\ cmpL l = packF r l := by
   rcases hcase with ⟨h1, h2⟩ | ⟨h1, h2, h3⟩
   ·obtain rfl : l = [] := List.eq_nil_of_length_eq_zero (by rw [HN.out]; exact h2)
    refine ⟨rW (([] : List Int).getD 0 0).toNat, by decide, fun v hv => (by cases hv), by unfold cmpE; simp, ?_⟩;unfold cmpL;rw [if_pos (by unfold cmpE; simp)]
   ·have hne : l ≠ [] := fun e => by have := HN.out; rw [e] at this; simp at this; omega
    have hE : cmpE l = 0 := by unfold cmpE; rw [if_neg (by rw [HN.out]; omega), if_neg hne]; exact h3
    obtain ⟨a1, a2⟩ := alk_sized H64.out h3 hne;exact ⟨_, a1, a2, hE, by unfold cmpL; rw [if_pos hE]⟩
  have HEND : Hid (∀ (R : List Int) (w' : World) (ao : Option Addr) (c : Nat), resM r (setF l).reverse ⟨[], [], []⟩ = R -> w'.ownsRow w.heap.size 35 1 (.slice ao (srt R).length c) (srt R).length (uV (srt R)) -> Below w.heap.size w w' -> ToldP w (cmpL l) (cmpE l) (.returned (.tuple #[.slice ao (srt R).length c, .int .i64 0])) w') := fun R w' ao c hR ho hb => by
   have e := pack_end hr hsz hR;rw [hLr, hEr, <- e];exact ⟨ao, c, rfl, ho, hb⟩
  have hsl : (setF l).length <= n := by have := setF_length l; rw [HN.out] at this; exact this
  have HST : Hid (∀ M, M.Perm (setF l).reverse -> Run (resM r (setF l).reverse ⟨[], [], []⟩) [] [] M) := fun M hM => run_start hr hsz hM
  have HUP : Hid (Dn (setF l).reverse) := (setF_up l).rev;have HSET : Hid (∀ wx, Below w.heap.size w wx -> Calls Tryz.prog 80 #[.slice ao n c] wx (SetRow wx (setF l))) := fun wx hb => by
   have := uset_row ao c l wx B (HW.out.below hb hB) (by rw [HN.out]; omega)
   rwa [HN.out] at this
  have HS64 : Hid (In64 (setF l)) := fun v hv => H64.out v ((setF_mem l v).1 hv)
  obtain ⟨R0, hR0⟩ : ∃ R0, resM r (setF l).reverse ⟨[], [], []⟩ = R0 := ⟨_, rfl⟩;rw [hR0] at HST;have HR0 := Lib.hid hR0;generalize setF l = S at *;clear hR0 hsz hEr hLr;rcases hcase with ⟨h1, h2⟩ | ⟨h1, h2, h3⟩
  case inl =>
   subst h2
   go_enter Tryz.func48, Tryz.ntmps48
   go_upto_region 7 with (fail)
   have HBA : Hid (Below w.heap.size w w) := Below.refl _ _
   go_wp2_with fail
   refine (HSET.out _ HBA.out).mono ?_;rintro e wS ⟨so, rfl, hs1, hs2, hs3, hbS⟩;have HBS := Lib.hid (HBA.out.trans (hbS.mono HBA.out.size));have HS1 : Hid (∀ g o s, so = some ⟨g, o, s⟩ -> w.heap.size <= g /\ g < wS.heap.size) := fun g o s e => ⟨Nat.le_trans HBA.out.size (hs1 g o s e).1, (hs1 g o s e).2⟩
   have HS2 := Lib.hid hs2;have HS3 := Lib.hid hs3;clear hs1 hs2 hs3 hbS HBA HSET;obtain ⟨m, hm⟩ : ∃ m, S.length = m := ⟨_, rfl⟩;have HM := Lib.hid hm;rw [hm] at hsl ⊢;clear hm
   go_upto_region 8 with (fail)
   have hrw : RowAt (wS.alloc (.cells #[.slice so m m] 123)) wS.heap.size so m S := row_new HM.out (fun h0 => by
    obtain ⟨g, e, hU⟩ := HS2.out (by rw [HM.out]; exact h0);rw [HM.out] at hU;exact ⟨g, e, hU⟩) (fun e => by rw [<- HM.out]; exact HS3.out e) HS64.out (by omega)
   have HRW := Lib.hid hrw;have HB2 : Hid (Below w.heap.size w (wS.alloc (.cells #[.slice so m m] 123))) := HBS.out.alloc HBS.out.size _;have HR0L : Hid (w.heap.size <= wS.heap.size) := HBS.out.size;clear hrw HS2 HS3 HBS;generalize wS.alloc (.cells #[.slice so m m] 123) = w2 at *;generalize wS.heap.size = r0 at *;have c0 := HRW.out.head HM.out;have HREV := Lib.hid (rev_row HRW.out HM.out (by omega))
   go_wp2_with fail
   refine HREV.out.mono ?_;rintro e w3 ⟨rfl, hr3, ht3⟩;have hh3 : HeapAt w3 r0 so m S.reverse := ⟨hr3, heap_dn HUP.out⟩;have HNF : Hid (∀ k, k < w.heap.size -> ¬ Foot r0 so k) := fun k hk hf => by
    rcases hf with rfl | ⟨o, s, e⟩
    ·have := HR0L.out; omega
    ·have := (HS1.out k o s e).1; omega
   have HB3 := Lib.hid (HB2.out.trans (ht3.below HB2.out.size HNF.out));have HINI := Lib.hid (hinit_any hh3);unfold ifc at HINI;clear hr3 ht3 hh3 HREV c0 HRW HB2
   go_wp2_with fail
   refine HINI.out.mono ?_;rintro e w4 ⟨rfl, hh4, ht4⟩;have HB4 := Lib.hid (HB3.out.trans (ht4.below HB3.out.size HNF.out));have HP4 : Hid (PkSt w.heap.size r0 w4 (.slice none 0 0) (.slice none 0 0) [] [] S.reverse) := by
    refine ⟨⟨so, m, hh4, fun k hk => ⟨?_, ?_, by simp [Value.ownBlock], by simp [Value.ownBlock]⟩⟩, World.ownsRow_nil _ _ _ _, World.ownsRow_nil _ _ _ _, .inl rfl⟩
    ·rcases Nat.lt_or_ge k w.heap.size with h | h
     ·exact absurd hk (HNF.out k h)
     ·exact h
    ·rcases hk with rfl | ⟨o, s, e⟩
     ·exact hh4.1.lt
     ·have h5 := (HS1.out k o s e).2
      have h6 := hh4.1.lt;omega
   have HRUN := Lib.hid (HST.out _ (List.Perm.refl _));have HLN : Hid (S.reverse.length = m) := by show _ = _; rw [List.length_reverse, HM.out]
   have HR64 : Hid (In64 S.reverse) := fun v hv => HS64.out v (by simpa using hv)
   have hm2 : m <= 20000 := by omega
   have hta : ∀ (x : Int) (w : World), (Instr.typeAssert (.iface 35 (.int .u64 x)) 20 35 true).run Tryz.prog w = .ok (.tuple #[.int .u64 x, .bool true]) w := fun _ _ => by kernel_rfl
   generalize S.reverse = F at *;clear hh4 ht4 HINI HB3 HST HUP HS64 HNF HS1;go_wp2
   go_loopg [6, 7] (8 * m) (fun q ov gv wr => ∃ (o g M : List Int) (on gn ml : Nat) (oo gg : Option Addr) (oc gc : Nat), ov = .slice oo on oc /\ gv = .slice gg gn gc /\ on + gn + ml <= m /\ gn < 7 /\ 8 * ml + gn <= q /\ Hid (o.length = on /\ g.length = gn /\ M.length = ml /\ Run R0 o g M /\ In64 g /\ In64 M /\ PkSt w.heap.size r0 wr (.slice oo on oc) (.slice gg gn gc) o g M /\ Below w.heap.size w wr))
   case atStart => exact ⟨[], [], F, 0, 0, m, none, none, 0, 0, rfl, rfl, by omega, by omega, by omega, rfl, rfl, HLN.out, HRUN.out, fun v hv => (by cases hv), HR64.out, HP4.out, HB4.out⟩
   case round =>
    obtain ⟨o, g, M, on, gn, ml, oo, gg, oc, gc, rfl, rfl, hsum, hg7, hq, HI⟩ := hrel;have hk := HI.out.2.2.2.2.2.2.1;obtain ⟨⟨ro, rc, hh, hf⟩, -⟩ := hk;have c0 := hh.1.head HI.out.2.2.1;have hr0 := hh.1.lt;have HH := Lib.hid hh;have HLEN := Lib.hid (plen_any ro ml rc wr);clear hh hf;by_cases hml : ml = 0
    ·subst hml
     have hM0 : M = [] := List.eq_nil_of_length_eq_zero HI.out.2.2.1;have hre : R0 = o ++ g := run_end (by have := HI.out.2.2.2.1; rwa [hM0] at this);have HRE := Lib.hid hre;have hown := HI.out.2.2.2.2.2.2.1.2.1;have hgw := HI.out.2.2.2.2.2.2.1.2.2.1;rw [HI.out.1] at hown;rw [HI.out.2.1] at hgw;have hbr := HI.out.2.2.2.2.2.2.2;obtain ⟨v3, w7, hrun, hown7, hg7', hat7⟩ := append_words_at hown (words_own HI.out.2.1.symm hgw) HI.out.2.1 (own_none hgw) hbr.size (by omega);have HRUN7 := Lib.hid hrun;obtain ⟨oo1, oc1, rfl, -⟩ := own_form hown7;have hl7 : (o ++ g).length = on + gn := by rw [List.length_append, HI.out.1, HI.out.2.1]
     have hb7 := below_append hbr hown hbr.size hg7';have HB7 := Lib.hid hb7;obtain ⟨nn, hnn2⟩ : ∃ nn, on + gn = nn := ⟨_, rfl⟩;rw [hnn2] at hown7 hl7 HRUN7;have HSORT := Lib.hid (sort_row hown7 hl7 hb7.size (by omega));have HL7 := Lib.hid hl7;clear hM0 hre hown hgw hbr hrun hown7 hg7' hat7 hl7 hb7 hnn2 HH HI hsum hg7 hq
     go_wp2_with fail
     refine HLEN.out.mono ?_;rintro e w5 ⟨rfl, rfl⟩
     go_wp2_with (at_builtin; refine wpList_append_want _ (by kernel_rfl) (.tmp 68) (.tmp 69) 22 22 rfl _ _ rfl rfl _ _ HRUN7.out ?_)
     refine HSORT.out.mono ?_;rintro e w8 ⟨rfl, ho8, hb8⟩;have HF : Hid (ToldP w (cmpL l) (cmpE l) (.returned (.tuple #[.slice oo1 nn oc1, .int .i64 0])) w8) := by
      have hs8 : (srt R0).length = nn := by rw [srt_length, HRE.out, HL7.out]
      have := HEND.out R0 w8 oo1 oc1 HR0.out (by rw [hs8, HRE.out]; exact ho8) (HB7.out.trans (hb8.mono (Nat.le_refl _)))
      rwa [hs8] at this
     clear ho8 hb8;go_wp2;go_ret2;exact HF.out
    ·exfalso
     omega
  case inr =>
   have q1 : decide (20000 < (n : Int)) = false := decide_eq_false (by omega);have q1n : decide (20000 < n) = false := decide_eq_false (by omega);have q2 : decide (0 < (n : Int)) = true := decide_eq_true (by omega);have q2n : decide (0 < n) = true := decide_eq_true (by omega);have hA := HAL.out h2 w hB HW.out;rw [h3] at hA;have HA := Lib.hid hA;clear hA h3
   go_enter Tryz.func48, Tryz.ntmps48
   go_wp2_with fail
   refine HA.out.mono ?_;rintro e wA ⟨rfl, hbA⟩;have HBA := Lib.hid hbA;clear hbA HA
   go_upto_region 7 with (fail)
   go_wp2_with fail
   refine (HSET.out _ HBA.out).mono ?_;rintro e wS ⟨so, rfl, hs1, hs2, hs3, hbS⟩;have HBS := Lib.hid (HBA.out.trans (hbS.mono HBA.out.size));have HS1 : Hid (∀ g o s, so = some ⟨g, o, s⟩ -> w.heap.size <= g /\ g < wS.heap.size) := fun g o s e => ⟨Nat.le_trans HBA.out.size (hs1 g o s e).1, (hs1 g o s e).2⟩
   have HS2 := Lib.hid hs2;have HS3 := Lib.hid hs3;clear hs1 hs2 hs3 hbS HBA HSET;obtain ⟨m, hm⟩ : ∃ m, S.length = m := ⟨_, rfl⟩;have HM := Lib.hid hm;rw [hm] at hsl ⊢;clear hm
   go_upto_region 8 with (fail)
   have hrw : RowAt (wS.alloc (.cells #[.slice so m m] 123)) wS.heap.size so m S := row_new HM.out (fun h0 => by
    obtain ⟨g, e, hU⟩ := HS2.out (by rw [HM.out]; exact h0);rw [HM.out] at hU;exact ⟨g, e, hU⟩) (fun e => by rw [<- HM.out]; exact HS3.out e) HS64.out (by omega)
   have HRW := Lib.hid hrw;have HB2 : Hid (Below w.heap.size w (wS.alloc (.cells #[.slice so m m] 123))) := HBS.out.alloc HBS.out.size _;have HR0L : Hid (w.heap.size <= wS.heap.size) := HBS.out.size;clear hrw HS2 HS3 HBS;generalize wS.alloc (.cells #[.slice so m m] 123) = w2 at *;generalize wS.heap.size = r0 at *;have c0 := HRW.out.head HM.out;have HREV := Lib.hid (rev_row HRW.out HM.out (by omega))
   go_wp2_with fail
   refine HREV.out.mono ?_;rintro e w3 ⟨rfl, hr3, ht3⟩;have hh3 : HeapAt w3 r0 so m S.reverse := ⟨hr3, heap_dn HUP.out⟩;have HNF : Hid (∀ k, k < w.heap.size -> ¬ Foot r0 so k) := fun k hk hf => by
    rcases hf with rfl | ⟨o, s, e⟩
    ·have := HR0L.out; omega
    ·have := (HS1.out k o s e).1; omega
   have HB3 := Lib.hid (HB2.out.trans (ht3.below HB2.out.size HNF.out));have HINI := Lib.hid (hinit_any hh3);unfold ifc at HINI;clear hr3 ht3 hh3 HREV c0 HRW HB2
   go_wp2_with fail
   refine HINI.out.mono ?_;rintro e w4 ⟨rfl, hh4, ht4⟩;have HB4 := Lib.hid (HB3.out.trans (ht4.below HB3.out.size HNF.out));have HP4 : Hid (PkSt w.heap.size r0 w4 (.slice none 0 0) (.slice none 0 0) [] [] S.reverse) := by
    refine ⟨⟨so, m, hh4, fun k hk => ⟨?_, ?_, by simp [Value.ownBlock], by simp [Value.ownBlock]⟩⟩, World.ownsRow_nil _ _ _ _, World.ownsRow_nil _ _ _ _, .inl rfl⟩
    ·rcases Nat.lt_or_ge k w.heap.size with h | h
     ·exact absurd hk (HNF.out k h)
     ·exact h
    ·rcases hk with rfl | ⟨o, s, e⟩
     ·exact hh4.1.lt
     ·have h5 := (HS1.out k o s e).2
      have h6 := hh4.1.lt;omega
   have HRUN := Lib.hid (HST.out _ (List.Perm.refl _));have HLN : Hid (S.reverse.length = m) := by show _ = _; rw [List.length_reverse, HM.out]
   have HR64 : Hid (In64 S.reverse) := fun v hv => HS64.out v (by simpa using hv)
   have hm2 : m <= 20000 := by omega
   have hta : ∀ (x : Int) (w : World), (Instr.typeAssert (.iface 35 (.int .u64 x)) 20 35 true).run Tryz.prog w = .ok (.tuple #[.int .u64 x, .bool true]) w := fun _ _ => by kernel_rfl
   generalize S.reverse = F at *;clear hh4 ht4 HINI HB3 HST HUP HS64 HNF HS1;go_wp2
   go_loopg [6, 7] (8 * m) (fun q ov gv wr => ∃ (o g M : List Int) (on gn ml : Nat) (oo gg : Option Addr) (oc gc : Nat), ov = .slice oo on oc /\ gv = .slice gg gn gc /\ on + gn + ml <= m /\ gn < 7 /\ 8 * ml + gn <= q /\ Hid (o.length = on /\ g.length = gn /\ M.length = ml /\ Run R0 o g M /\ In64 g /\ In64 M /\ PkSt w.heap.size r0 wr (.slice oo on oc) (.slice gg gn gc) o g M /\ Below w.heap.size w wr))
   case atStart => exact ⟨[], [], F, 0, 0, m, none, none, 0, 0, rfl, rfl, by omega, by omega, by omega, rfl, rfl, HLN.out, HRUN.out, fun v hv => (by cases hv), HR64.out, HP4.out, HB4.out⟩
   case round =>
    obtain ⟨o, g, M, on, gn, ml, oo, gg, oc, gc, rfl, rfl, hsum, hg7, hq, HI⟩ := hrel;have hk := HI.out.2.2.2.2.2.2.1;obtain ⟨⟨ro, rc, hh, hf⟩, -⟩ := hk;have c0 := hh.1.head HI.out.2.2.1;have hr0 := hh.1.lt;have HH := Lib.hid hh;have HLEN := Lib.hid (plen_any ro ml rc wr);clear hh hf;by_cases hml : ml = 0
    ·subst hml
     have hM0 : M = [] := List.eq_nil_of_length_eq_zero HI.out.2.2.1;have hre : R0 = o ++ g := run_end (by have := HI.out.2.2.2.1; rwa [hM0] at this);have HRE := Lib.hid hre;have hown := HI.out.2.2.2.2.2.2.1.2.1;have hgw := HI.out.2.2.2.2.2.2.1.2.2.1;rw [HI.out.1] at hown;rw [HI.out.2.1] at hgw;have hbr := HI.out.2.2.2.2.2.2.2;obtain ⟨v3, w7, hrun, hown7, hg7', hat7⟩ := append_words_at hown (words_own HI.out.2.1.symm hgw) HI.out.2.1 (own_none hgw) hbr.size (by omega);have HRUN7 := Lib.hid hrun;obtain ⟨oo1, oc1, rfl, -⟩ := own_form hown7;have hl7 : (o ++ g).length = on + gn := by rw [List.length_append, HI.out.1, HI.out.2.1]
     have hb7 := below_append hbr hown hbr.size hg7';have HB7 := Lib.hid hb7;obtain ⟨nn, hnn2⟩ : ∃ nn, on + gn = nn := ⟨_, rfl⟩;rw [hnn2] at hown7 hl7 HRUN7;have HSORT := Lib.hid (sort_row hown7 hl7 hb7.size (by omega));have HL7 := Lib.hid hl7;clear hM0 hre hown hgw hbr hrun hown7 hg7' hat7 hl7 hb7 hnn2 HH HI hsum hg7 hq
     go_wp2_with fail
     refine HLEN.out.mono ?_;rintro e w5 ⟨rfl, rfl⟩
     go_wp2_with (at_builtin; refine wpList_append_want _ (by kernel_rfl) (.tmp 68) (.tmp 69) 22 22 rfl _ _ rfl rfl _ _ HRUN7.out ?_)
     refine HSORT.out.mono ?_;rintro e w8 ⟨rfl, ho8, hb8⟩;have HF : Hid (ToldP w (cmpL l) (cmpE l) (.returned (.tuple #[.slice oo1 nn oc1, .int .i64 0])) w8) := by
      have hs8 : (srt R0).length = nn := by rw [srt_length, HRE.out, HL7.out]
      have := HEND.out R0 w8 oo1 oc1 HR0.out (by rw [hs8, HRE.out]; exact ho8) (HB7.out.trans (hb8.mono (Nat.le_refl _)))
      rwa [hs8] at this
     clear ho8 hb8;go_wp2;go_ret2;exact HF.out
    ·obtain ⟨k, rfl⟩ : ∃ k, ml = k + 1 := ⟨ml - 1, by omega⟩
     have q4 : decide (0 < ((k + 1 : Nat) : Int)) = true := decide_eq_true (by omega);have q4n : decide (0 < k + 1) = true := decide_eq_true (by omega);have HPOP := Lib.hid (hpop_any HH.out HI.out.2.2.1);unfold ifc at HPOP;have HMX := Lib.hid (heap_max HH.out.2)
     go_wp2_with fail
     refine HLEN.out.mono ?_;rintro e w5 ⟨rfl, rfl⟩
     go_wp2_with fail
     refine HPOP.out.mono ?_;intro e w5 hp;obtain ⟨rfl, M', hperm, hpk, hbp⟩ := HI.out.2.2.2.2.2.2.1.popped HH.out HI.out.2.2.1 hp;obtain ⟨hwd, -, hst7, hst1⟩ := run_step HI.out.2.2.2.1 hperm.symm HMX.out;obtain ⟨kk, hk12, hwd⟩ := hwd;obtain ⟨u, hu, hu64⟩ := word_lt hwd;rw [hu] at hperm hst7 hst1 ⊢;have HS7 := Lib.hid hst7;have HS1 := Lib.hid hst1;have HM' : Hid (M'.length = k /\ In64 M') := ⟨by have := hperm.length_eq; rw [HI.out.2.2.1] at this; simpa using this, fun v hv => HI.out.2.2.2.2.2.1 v (hperm.subset (List.mem_cons_of_mem _ hv))⟩;have HP5 := Lib.hid hpk;have HB5 := Lib.hid (HI.out.2.2.2.2.2.2.2.trans hbp);have HG := Lib.hid HI.out.2.2.2.2.1;have HOL : Hid (o.length = on /\ g.length = gn) := ⟨HI.out.1, HI.out.2.1⟩;clear hp hperm hpk hbp hwd hst7 hst1 hu HPOP HMX HLEN HH HI c0 hr0;have hcase : (gn = 0 ∨ (0 < gn /\ broB (g.getD 0 0) u = false)) ∨ (0 < gn /\ broB (g.getD 0 0) u = true) := by
      by_cases h : gn = 0
      ·exact .inl (.inl h)
      ·cases hb : broB (g.getD 0 0) u with
       | false => exact .inl (.inr ⟨by omega, rfl⟩)
       | true => exact .inr ⟨by omega, rfl⟩
     rcases hcase with hcase | ⟨hg0, hb⟩
     ·
      rcases hcase with hg0 | ⟨hg0, hb⟩
      case' inl =>
       subst hg0;obtain rfl : g = [] := List.eq_nil_of_length_eq_zero HOL.out.2;have q6 : decide (0 < (0 : Int)) = false := rfl;have q6n : decide (0 < 0) = false := rfl;rw [flush_none] at HS1;have HPX := HP5;have HBX := HB5;have HXL : Hid (o.length = on) := HOL.out.1;have HXR : Hid (Run R0 o ([] ++ [(u : Int)]) M') := HS1.out (by simp);have hsumX : on + 0 + (k + 1) <= m := hsum;have hqX := Nat.le_trans (show 8 * (k + 1) <= _ from Nat.le_add_right _ _) hq
       go_upto_region 16 with (fail)
       obtain ⟨wX, rfl⟩ : ∃ wX, wX = w5 := ⟨_, rfl⟩;clear HP5 HB5 HS1 HS7 HOL HG hsum hq
      case' inr =>
       have hne : g ≠ [] := fun e => by have := HOL.out.2; rw [e] at this; simp at this; omega
       have hown := HP5.out.2.2.1;rw [HOL.out.2] at hown;obtain ⟨gb, rfl, hgb, cg⟩ := own_val hown hg0 HOL.out.2;obtain ⟨v, hv, hv64⟩ : ∃ v : Nat, g.getD 0 0 = v /\ v < 18446744073709551616 := by
        have := HG.out _ (getD0_mem hne);exact ⟨(g.getD 0 0).toNat, by omega, by omega⟩
       have hbro := bro_any v u hv64 hu64;rw [flush_yes hne hb] at HS1;rw [hv] at cg hb;rw [hb] at hbro;have HBRO := Lib.hid hbro;have q6 : decide (0 < (gn : Int)) = true := decide_eq_true (by omega);have q6n : decide (0 < gn) = true := decide_eq_true (by omega);clear hbro hb hv hown hne
       go_wp2_with fail
       refine (HBRO.out _).mono ?_;rintro e w6 ⟨rfl, hb6⟩;have HP6 := Lib.hid (HP5.out.later hb6);have HB6 := Lib.hid (HB5.out.trans (hb6.mono HB5.out.size));clear hb6 cg HBRO HP5 HB5;have hown := HP6.out.2.1;have hgw := HP6.out.2.2.1;rw [HOL.out.1] at hown;rw [HOL.out.2] at hgw;obtain ⟨v3, w7, hrun, hown7, hg7', hat7⟩ := append_words_at hown (words_own HOL.out.2.symm hgw) HOL.out.2 (own_none hgw) HB6.out.size (by omega);have HRUN7 := Lib.hid hrun;obtain ⟨oo1, oc1, rfl, -⟩ := own_form hown7;have hl7 : (o ++ g).length = on + gn := by rw [List.length_append, HOL.out.1, HOL.out.2]
       have hown7' : w7.ownsRow w.heap.size 35 1 (.slice oo1 (on + gn) oc1) (o ++ g).length (uV (o ++ g)) := by rw [hl7]; exact hown7
       have HPX := Lib.hid (HP6.out.out hown7' hg7' hat7).none;have HBX := Lib.hid (below_append HB6.out hown HB6.out.size hg7');have HXL := Lib.hid hl7;have HXR : Hid (Run R0 (o ++ g) ([] ++ [(u : Int)]) M') := HS1.out (by simp);have hsumX : on + gn + 0 + (k + 1) <= m := by omega
       have hqX := Nat.le_trans (show 8 * (k + 1) <= _ from Nat.le_add_right _ _) hq;clear hown hgw hrun hown7 hown7' hg7' hat7 hl7 HP6 HB6
       go_upto_region 14 with (fail)
       go_upto_region 16 with (at_builtin; refine wpList_append_want _ (by kernel_rfl) (.tmp 49) (.tmp 50) 22 22 rfl _ _ rfl rfl _ _ HRUN7.out ?_)
       obtain ⟨wX, rfl⟩ : ∃ wX, wX = w7 := ⟨_, rfl⟩;clear HRUN7 HS1 HS7 HOL HG hsum hq
      all_goals
       have hown := HPX.out.2.2.1;have hal : Below wX.heap.size wX (wX.alloc (.cells #[.int .u64 u] 35)) := (Below.refl _ _).alloc (Nat.le_refl _) _;have HPA := Lib.hid (HPX.out.later hal);have HBA := Lib.hid (HBX.out.alloc HBX.out.size (.cells #[.int .u64 (u : Int)] 35));have hbs : w.heap.size <= (wX.alloc (.cells #[.int .u64 (u : Int)] 35)).heap.size := HBA.out.size;have q7 : ((((0 + 1 : Nat)) : Int) == 7) = false := by decide
       clear hal
       go_wp2_with (at_builtin; refine wpList_append_own_at _ rfl (.tmp 52) (.tmp 54) 22 rfl w.heap.size 35 i0 (.int .u64 0) 1 8 Tryz.underlying22 hi hz0 hz1 hz2 rfl (by decide) _ 0 [] rfl (hown.alloc _) ⟨wX.heap.size, 0, none⟩ 1 1 [.int .u64 u] rfl rfl (cells_new _ _ _ _ rfl) (by simp [Value.oneCell']) (by unfold maxLen; omega) (by omega) hbs ?_; intro v8 w8 hown8 hg8 _ hat8; have HX8 := Lib.hid (And.intro hown8 (And.intro hg8 hat8)); obtain ⟨gg3, gc3, hv8, -⟩ := own_form hown8; clear hown8 hg8 hat8; subst hv8)
       obtain ⟨hown8, hg8, hat8⟩ := HX8.out;have HP8 := Lib.hid (HPA.out.grp (g' := [(u : Int)]) hown8 hg8 hat8);have HB8 := Lib.hid (below_append HBA.out HPA.out.2.2.1 hbs hg8);have HGL : Hid (In64 [(u : Int)]) := fun v hv => by rw [List.mem_singleton.1 hv]; omega
       clear hown hown8 hg8 hat8 hbs HPA HBA HPX HBX hta HX8
       go_roundg (8 * k + 1)
       case measure => omega
       case rel => exact ⟨_, [(u : Int)], M', _, 1, k, _, gg3, _, gc3, rfl, rfl, by omega, by omega, by omega, HXL.out, rfl, HM'.out.1, HXR.out, HGL.out, HM'.out.2, HP8.out, HB8.out⟩
     ·
      have hne : g ≠ [] := fun e => by have := HOL.out.2; rw [e] at this; simp at this; omega
      have hown := HP5.out.2.2.1;rw [HOL.out.2] at hown;obtain ⟨gb, rfl, hgb, cg⟩ := own_val hown hg0 HOL.out.2;obtain ⟨v, hv, hv64⟩ : ∃ v : Nat, g.getD 0 0 = v /\ v < 18446744073709551616 := by
       have := HG.out _ (getD0_mem hne);exact ⟨(g.getD 0 0).toNat, by omega, by omega⟩
      have hbro := bro_any v u hv64 hu64;rw [flush_no hb, HOL.out.2] at HS1 HS7;rw [hv] at cg hb;rw [hb] at hbro;have HBRO := Lib.hid hbro;have q6 : decide (0 < (gn : Int)) = true := decide_eq_true (by omega);have q6n : decide (0 < gn) = true := decide_eq_true (by omega);clear hbro hb hv hown hne
      go_wp2_with fail
      refine (HBRO.out _).mono ?_;rintro e w6 ⟨rfl, hb6⟩;have HP6 := Lib.hid (HP5.out.later hb6);have HB6 := Lib.hid (HB5.out.trans (hb6.mono HB5.out.size));clear hb6 cg HBRO HP5 HB5;have hown := HP6.out.2.2.1;rw [HOL.out.2] at hown;have hal : Below w6.heap.size w6 (w6.alloc (.cells #[.int .u64 u] 35)) := (Below.refl _ _).alloc (Nat.le_refl _) _;have HPA := Lib.hid (HP6.out.later hal);have HBA := Lib.hid (HB6.out.alloc HB6.out.size (.cells #[.int .u64 (u : Int)] 35));have hbs : w.heap.size <= (w6.alloc (.cells #[.int .u64 (u : Int)] 35)).heap.size := HBA.out.size;have hownA := hown.alloc (.cells #[.int .u64 (u : Int)] 35);clear hal;by_cases h7 : gn + 1 = 7
      ·have q7 : (((gn + 1 : Nat) : Int) == 7) = true := by rw [h7]; rfl
       have q7' : ((gn : Int) + 1 == 7) = true := by rw [beq_iff_eq]; omega
       go_wp2_with (at_builtin; refine wpList_append_own_at _ rfl (.tmp 52) (.tmp 54) 22 rfl w.heap.size 35 i0 (.int .u64 0) 1 8 Tryz.underlying22 hi hz0 hz1 hz2 rfl (by decide) _ gn (uV g) rfl hownA ⟨w6.heap.size, 0, none⟩ 1 1 [.int .u64 u] rfl rfl (cells_new _ _ _ _ rfl) (by simp [Value.oneCell']) (by unfold maxLen; omega) (by omega) hbs ?_; intro v8 w8 hown8 hg8 _ hat8; have HX8 := Lib.hid (And.intro hown8 (And.intro hg8 hat8)); obtain ⟨gg3, gc3, hv8, -⟩ := own_form hown8; clear hown8 hg8 hat8; subst hv8)
       obtain ⟨hown8, hg8, hat8⟩ := HX8.out;have hl8 : (g ++ [(u : Int)]).length = gn + 1 := by rw [List.length_append, HOL.out.2]; rfl
       have hown8' : w8.ownsRow w.heap.size 35 1 (.slice gg3 (gn + 1) gc3) (g ++ [(u : Int)]).length (uV (g ++ [(u : Int)])) := by rw [hl8, uV_snoc]; exact hown8
       have HP8 := Lib.hid (HPA.out.grp (g' := g ++ [(u : Int)]) hown8' hg8 hat8);have HB8 := Lib.hid (below_append HBA.out hownA hbs hg8);have HL8 := Lib.hid hl8;have HGL : Hid (In64 (g ++ [(u : Int)])) := fun v hv => by
        rcases List.mem_append.1 hv with h | h
        ·exact HG.out v h
        ·rw [List.mem_singleton.1 h]; omega
       clear hown hown8 hown8' hg8 hat8 hbs HPA HBA HP6 HB6 hta hl8 hownA;have HXR : Hid (Run R0 o [] (parI u :: M')) := HS7.out h7;have hipar := ipar_any u hu64;have hpi : parI (u : Int) = (parW u : Int) := by unfold parI; rw [Int.toNat_natCast]
       rw [hpi] at HXR;have hpw := parW_lt u;obtain ⟨pw, hpw2⟩ : ∃ pw, parW u = pw := ⟨_, rfl⟩;obtain ⟨pe, hpe⟩ : ∃ pe, parE u = pe := ⟨_, rfl⟩;rw [hpw2] at hipar HXR hpw;rw [hpe] at hipar;have HIP := Lib.hid hipar;clear hipar hpi hpw2 hpe HS1 HS7 h7;refine (HIP.out _).mono ?_;rintro e w9 ⟨rfl, hb9⟩;have HP9 := Lib.hid (HP8.out.later hb9);have HB9 := Lib.hid (HB8.out.trans (hb9.mono HB8.out.size));clear hb9 HIP HP8 HB8;obtain ⟨⟨ro2, rc2, hh2, -⟩, -⟩ := HP9.out;have HH2 := Lib.hid hh2;have HPU := Lib.hid (hpush_any hh2 (pw : Int) ⟨by omega, by omega⟩ (by rw [HM'.out.1]; omega));unfold ifc at HPU;clear hh2
       go_wp2_with fail
       refine HPU.out.mono ?_;intro e w10 hp;obtain ⟨rfl, M2, hperm2, hpk2, hbp2⟩ := HP9.out.pushed HH2.out hp;have HM2 : Hid (M2.length = k + 1 /\ In64 M2) := ⟨by have := hperm2.length_eq; rw [List.length_cons, HM'.out.1] at this; exact this, fun v hv => by
        rcases List.mem_cons.1 (hperm2.subset hv) with h | h
        ·rw [h]; omega
        ·exact HM'.out.2 v h⟩
       have HX2 : Hid (Run R0 o [] M2) := by
        obtain ⟨r', s0, P, A, u', k1, k2, k3, k4, k5, k6, k7, k8, k9⟩ := HXR.out;exact ⟨r', s0, P, A, u', k1, k2, k3, k4, k5, k6, k7, hperm2.trans k8, k9⟩
       have HP10 := Lib.hid hpk2.none;have HB10 := Lib.hid (HB9.out.trans hbp2);have hq8 := Nat.lt_of_lt_of_le (show 8 * (k + 1) < 8 * (k + 1) + gn by omega) hq;clear hp hperm2 hpk2 hbp2 HPU HH2 HP9 HB9 HXR hq;go_wp2
       go_roundg (8 * (k + 1))
       case measure => omega
       case rel => exact ⟨o, [], M2, on, 0, k + 1, oo, none, oc, 0, rfl, rfl, by omega, by omega, by omega, HOL.out.1, rfl, HM2.out.1, HX2.out, fun v hv => (by cases hv), HM2.out.2, HP10.out, HB10.out⟩
      ·have q7 : (((gn + 1 : Nat) : Int) == 7) = false := by rw [beq_eq_false_iff_ne]; omega
       have q7' : ((gn : Int) + 1 == 7) = false := by rw [beq_eq_false_iff_ne]; omega
       go_wp2_with (at_builtin; refine wpList_append_own_at _ rfl (.tmp 52) (.tmp 54) 22 rfl w.heap.size 35 i0 (.int .u64 0) 1 8 Tryz.underlying22 hi hz0 hz1 hz2 rfl (by decide) _ gn (uV g) rfl hownA ⟨w6.heap.size, 0, none⟩ 1 1 [.int .u64 u] rfl rfl (cells_new _ _ _ _ rfl) (by simp [Value.oneCell']) (by unfold maxLen; omega) (by omega) hbs ?_; intro v8 w8 hown8 hg8 _ hat8; have HX8 := Lib.hid (And.intro hown8 (And.intro hg8 hat8)); obtain ⟨gg3, gc3, hv8, -⟩ := own_form hown8; clear hown8 hg8 hat8; subst hv8)
       obtain ⟨hown8, hg8, hat8⟩ := HX8.out;have hl8 : (g ++ [(u : Int)]).length = gn + 1 := by rw [List.length_append, HOL.out.2]; rfl
       have hown8' : w8.ownsRow w.heap.size 35 1 (.slice gg3 (gn + 1) gc3) (g ++ [(u : Int)]).length (uV (g ++ [(u : Int)])) := by rw [hl8, uV_snoc]; exact hown8
       have HP8 := Lib.hid (HPA.out.grp (g' := g ++ [(u : Int)]) hown8' hg8 hat8);have HB8 := Lib.hid (below_append HBA.out hownA hbs hg8);have HL8 := Lib.hid hl8;have HGL : Hid (In64 (g ++ [(u : Int)])) := fun v hv => by
        rcases List.mem_append.1 hv with h | h
        ·exact HG.out v h
        ·rw [List.mem_singleton.1 h]; omega
       clear hown hown8 hown8' hg8 hat8 hbs HPA HBA HP6 HB6 hta hl8 hownA;have HXR : Hid (Run R0 o (g ++ [(u : Int)]) M') := HS1.out h7;clear HS1 HS7;have h7' : gn + 1 < 7 := by omega
       clear h7
       go_roundg (8 * k + (gn + 1))
       case measure => omega
       case rel => exact ⟨o, _, M', on, gn + 1, k, oo, gg3, oc, gc3, rfl, rfl, by omega, by omega, by omega, HOL.out.1, HL8.out, HM'.out.1, HXR.out, HGL.out, HM'.out.2, HP8.out, HB8.out⟩
end
section
open Go.RowKit Go.Lib Wd
theorem sized_word {r : Nat} {v : Int} (h : ∃ z, okB r z = true /\ v = (wordN r z : Int)) : isW v.toNat = true /\ rW v.toNat = r /\ v = (wordN r (zW v.toNat) : Int) /\ okB r (zW v.toNat) = true := by
 obtain ⟨z, hz, rfl⟩ := h;obtain ⟨a, b, c⟩ := word_cell hz;rw [Int.toNat_natCast];exact ⟨a, b, by rw [c], by rw [c]; exact hz⟩
theorem sized_all {r : Nat} {l : List Int} (h : Sized r l) : allW l = true := List.all_eq_true.2 fun v hv => (sized_word (h v hv)).1
theorem sized_64 {r : Nat} {l : List Int} (h : Sized r l) : In64 l := fun v hv => by
 obtain ⟨z, hz, rfl⟩ := h v hv;have := (wordN_lt hz).1;omega
theorem sized_chk {r : Nat} : ∀ {l : List Int}, Sized r l -> chkF r l = 0
 | [], _ => rfl
 | v :: l, h => by
  obtain ⟨a, b, -⟩ := sized_word (h v List.mem_cons_self);unfold chkF;rw [if_pos a, if_pos (by omega)];exact sized_chk fun u hu => h u (List.mem_cons_of_mem _ hu)
theorem sized_cmp {r : Nat} {l : List Int} (h : Sized r l) (hl : l.length <= 20000) : cmpE l = 0 /\ (l ≠ [] -> cmpL l = packF r l) /\ (l = [] -> cmpL l = []) := by
 have hE : cmpE l = 0 := by
  unfold cmpE;rw [if_neg (by omega)];by_cases h0 : l = []
  ·rw [if_pos h0]
  ·rw [if_neg h0]
   obtain ⟨a, b, -⟩ := sized_word (h _ (getD_mem (List.length_pos_iff.2 h0)));unfold alkE;rw [if_pos (sized_all h), show resW (l.getD 0 0).toNat = (r : Int) by unfold resW; rw [if_pos a, b]];exact sized_chk h
 refine ⟨hE, fun h0 => ?_, fun h0 => ?_⟩
 ·unfold cmpL
  rw [if_pos hE, (sized_word (h _ (getD_mem (List.length_pos_iff.2 h0)))).2.1]
 ·subst h0
  unfold cmpL packF;rw [if_pos hE];have e : ∀ r, packN r (setF []) = [] := fun r => by
   have es : setF ([] : List Int) = [] := List.eq_nil_iff_forall_not_mem.2 fun x hx => by have := (setF_mem [] x).1 hx; cases this
   rw [es]
   induction r with
   | zero => rfl
   | succ r ih => show doneL [] ++ packN r (nextL []) = []; rw [next_nil, ih]; rfl
  rw [e];exact List.eq_nil_iff_forall_not_mem.2 fun x hx => by have := (setF_mem [] x).1 hx; cases this
theorem ds_mem : ∀ (d k : Nat) (z : E2), k + d <= 12 -> okB k z = true -> ∀ x : Int, x ∈ dsN d k z ↔ ∃ y, okB (k + d : Nat) y = true /\ upN d y = z /\ x = (wordN (k + d) y : Int)
 | 0, k, z, _, hz, x => by
  constructor
  ·intro hx
   have hx : x = (wordN k z : Int) := List.mem_singleton.1 hx;exact ⟨z, hz, rfl, hx⟩
  ·rintro ⟨y, hy, e, rfl⟩
   have e : y = z := e;subst e;exact List.mem_singleton.2 rfl
 | d + 1, k, z, hk, hz, x => by
  show x ∈ (List.range 7).flatMap (fun i => dsN d (k + 1) (downE z i)) ↔ _;rw [List.mem_flatMap];constructor
  ·rintro ⟨i, hi, hx⟩
   have hi7 := List.mem_range.1 hi;obtain ⟨y, hy, e, rfl⟩ := (ds_mem d (k + 1) (downE z i) (by omega) (kid_ok hz (by omega) hi7) x).1 hx;refine ⟨y, by rw [show k + (d + 1) = k + 1 + d by omega]; exact hy, ?_, by rw [show k + (d + 1) = k + 1 + d by omega]⟩;rw [upN_up, e, upE_down z hi7]
  ·rintro ⟨y, hy, e, rfl⟩
   rw [upN_up] at e;refine ⟨digE (upN d y), List.mem_range.2 (digE_lt _), ?_⟩;have hdn : downE z (digE (upN d y)) = upN d y := by rw [<- e]; exact down_up _
   have hy' : okB (k + 1 + d : Nat) y = true := by rw [show k + 1 + d = k + (d + 1) by omega]; exact hy
   rw [hdn];exact (ds_mem d (k + 1) (upN d y) (by omega) (upN_ok d hy') _).2 ⟨y, hy', rfl, by rw [show k + (d + 1) = k + 1 + d by omega]⟩
theorem ds_len : ∀ (d k : Nat) (z : E2), (dsN d k z).length = 7 ^ d
 | 0, _, _ => rfl
 | d + 1, k, z => by
  show ((List.range 7).flatMap (fun i => dsN d (k + 1) (downE z i))).length = _;rw [List.length_flatMap, show List.range 7 = [0, 1, 2, 3, 4, 5, 6] from rfl];simp only [List.map_cons, List.map_nil, List.sum_cons, List.sum_nil, ds_len d];rw [Nat.pow_succ];omega
theorem ds_apart (d : Nat) : ∀ (k : Nat) {y z : E2}, k + d <= 12 -> okB k y = true -> okB k z = true -> wordN k y < wordN k z -> ∀ a ∈ dsN d k y, ∀ b ∈ dsN d k z, a < b := by
 induction d with
 | zero =>
  intro k y z _ _ _ h a ha b hb;have ha : a = (wordN k y : Int) := List.mem_singleton.1 ha;have hb : b = (wordN k z : Int) := List.mem_singleton.1 hb;rw [ha, hb];exact Int.ofNat_lt.2 h
 | succ d ih =>
  intro k y z hk hy hz h a ha b hb;obtain ⟨i, hi, ha⟩ := List.mem_flatMap.1 (show a ∈ (List.range 7).flatMap (fun i => dsN d (k + 1) (downE y i)) from ha);obtain ⟨j, hj, hb⟩ := List.mem_flatMap.1 (show b ∈ (List.range 7).flatMap (fun i => dsN d (k + 1) (downE z i)) from hb);have hi := List.mem_range.1 hi;have hj := List.mem_range.1 hj;exact ih (k + 1) (by omega) (kid_ok hy (by omega) hi) (kid_ok hz (by omega) hj) (kids_apart (by omega) h hi hj) a ha b hb
theorem kid_less {k : Nat} (hk : k + 1 <= 12) (z : E2) {i j : Nat} (hij : i < j) (hj : j < 7) : wordN (k + 1) (downE z i) < wordN (k + 1) (downE z j) := by
 have h1 := word_kid (z := z) hk (show i < 7 by omega);have h2 := word_kid (z := z) hk hj;have hu : 0 < (8 : Nat) ^ (11 - k) := Nat.pow_pos (by decide);have h3 : (7 - j) * 8 ^ (11 - k) + 8 ^ (11 - k) <= (7 - i) * 8 ^ (11 - k) := by rw [<- Nat.succ_mul]; exact Nat.mul_le_mul_right _ (by omega)
 omega
theorem ds_up : ∀ (d k : Nat) (z : E2), k + d <= 12 -> okB k z = true -> Up (dsN d k z)
 | 0, _, _, _, _ => List.pairwise_singleton _ _
 | d + 1, k, z, hk, hz => by
  show Up ((List.range 7).flatMap (fun i => dsN d (k + 1) (downE z i)));refine List.pairwise_flatMap.2 ⟨fun i hi => ds_up d (k + 1) _ (by omega) (kid_ok hz (by omega) (List.mem_range.1 hi)), ?_⟩;refine (List.pairwise_lt_range (n := 7)).imp_of_mem fun {i j} hi hj hij => ?_
  have hi := List.mem_range.1 hi;have hj := List.mem_range.1 hj;exact ds_apart d (k + 1) (by omega) (kid_ok hz (by omega) hi) (kid_ok hz (by omega) hj) (kid_less (by omega) z hij hj)
theorem packN_nil : ∀ r, packN r [] = []
 | 0 => rfl
 | r + 1 => by show doneL [] ++ packN r (nextL []) = []; rw [next_nil, packN_nil r]; rfl
theorem upN_one (d : Nat) (y : E2) : upN d (upE y) = upN (d + 1) y := by
 have := upN_add d 1 y;rw [show 1 + d = d + 1 by omega] at this;exact this
theorem kids_ds {k : Nat} {z : E2} (hk : k + 1 <= 12) : kidsW k (wordN k z) = dsN 1 k z := by
 show _ = (List.range 7).flatMap (fun i => dsN 0 (k + 1) (downE z i));have e : ∀ i, dsN 0 (k + 1) (downE z i) = [(wordN (k + 1) (downE z i) : Int)] := fun _ => rfl
 simp only [e];unfold kidsW;rw [show List.range 7 = [0, 1, 2, 3, 4, 5, 6] from rfl];have h := fun i (hi : i < 7) => word_kid (z := z) hk hi
 have h0 := h 0 (by omega);have h1 := h 1 (by omega);have h2 := h 2 (by omega);have h3 := h 3 (by omega);have h4 := h 4 (by omega);have h5 := h 5 (by omega);have h6 := h 6 (by omega);clear h;generalize (8 : Nat) ^ (11 - k) = u at *;simp only [List.map_cons, List.map_nil, List.flatMap_cons, List.flatMap_nil, List.append_nil, List.singleton_append, List.cons.injEq, and_true];omega
end
section
open Go.RowKit Go.Lib Go.Sort Wd
end
section
open Go.RowKit Go.Lib Wd
theorem rW_lt (u : Nat) : rW u < 16 := Nat.mod_lt _ (by decide)
theorem sz_bad {l : List Int} {r : Int} {k : Nat} (hk : k < l.length) (h : isW (l.getD k 0).toNat = false) : szE l r = 5 /\ szN l r = 0 := by
 have e : szE l r = 5 := by
  unfold szE;rw [if_pos];unfold allW;rw [List.all_eq_false];exact ⟨_, getD_mem hk, by rw [h]; decide⟩
 exact ⟨e, by unfold szN; rw [e]; rfl⟩
theorem sz_all {l : List Int} (h : ∀ k, k < l.length -> isW (l.getD k 0).toNat = true) : allW l = true := by
 unfold allW;rw [List.all_eq_true];intro v hv;obtain ⟨k, hk, rfl⟩ := List.getElem_of_mem hv;have := h k hk
 rwa [List.getD_eq_getElem?_getD, List.getElem?_eq_getElem hk, Option.getD_some] at this
theorem sz_big {l : List Int} {r : Int} (ha : allW l = true) {k : Nat} (hk : k < l.length) (h : r < (rW (l.getD k 0).toNat : Int)) : szE l r = 8 /\ szN l r = 0 := by
 have e : szE l r = 8 := by
  unfold szE;rw [if_neg (by rw [ha]; decide), if_pos];rw [List.any_eq_true];exact ⟨_, getD_mem hk, decide_eq_true h⟩
 exact ⟨e, by unfold szN; rw [e]; rfl⟩
theorem sz_small {l : List Int} {r : Int} (h : ∀ k, k < l.length -> (rW (l.getD k 0).toNat : Int) <= r) : l.any (fun v => decide (r < (rW v.toNat : Int))) = false := by
 rw [List.any_eq_false];intro v hv;obtain ⟨k, hk, rfl⟩ := List.getElem_of_mem hv;have := h k hk;rw [List.getD_eq_getElem?_getD, List.getElem?_eq_getElem hk, Option.getD_some] at this;rw [decide_eq_true_eq];omega
theorem sz_arg {l : List Int} {r : Int} (ha : allW l = true) (hs : l.any (fun v => decide (r < (rW v.toNat : Int))) = false) (h : r < 0 ∨ 12 < r) : szE l r = 1 /\ szN l r = 0 := by
 have e : szE l r = 1 := by
  unfold szE;rw [if_neg (by rw [ha]; decide), if_neg (by rw [hs]; decide), if_pos h]
 exact ⟨e, by unfold szN; rw [e]; rfl⟩
theorem sz_many {l : List Int} {R : Nat} (ha : allW l = true) (hs : l.any (fun v => decide ((R : Int) < (rW v.toNat : Int))) = false) (hR : R <= 12) {k : Nat} (h : 1099511627776 < sumS R (l.take k)) : szE l R = 7 /\ szN l R = 0 := by
 have e : szE l R = 7 := by
  unfold szE;rw [if_neg (by rw [ha]; decide), if_neg (by rw [hs]; decide), if_neg (by omega), Int.toNat_natCast, if_pos (Nat.lt_of_lt_of_le h (sumS_le R k))]
 exact ⟨e, by unfold szN; rw [e]; rfl⟩
theorem sz_ok {l : List Int} {R : Nat} (ha : allW l = true) (hs : l.any (fun v => decide ((R : Int) < (rW v.toNat : Int))) = false) (hR : R <= 12) (h : sumS R l <= 1099511627776) : szE l R = 0 /\ szN l R = (sumS R l : Int) := by
 have e : szE l R = 0 := by
  unfold szE;rw [if_neg (by rw [ha]; decide), if_neg (by rw [hs]; decide), if_neg (by omega), Int.toNat_natCast, if_neg (by omega)]
 exact ⟨e, by unfold szN; rw [e, if_pos rfl, Int.toNat_natCast]⟩
theorem rsize_any (ao : Option Addr) (c : Nat) (l : List Int) (r : Int) (w : World) (B : Nat) (h : WordsAt w B ao l) (hB : B <= w.heap.size) (hn : l.length <= 1000000) (h64 : In64 l) :
  Calls Tryz.prog 56 #[.slice ao l.length c, .int .i64 r] w fun e w' => e = .returned (.tuple #[.int .i64 (szN l r), .int .i64 (szE l r)]) /\ Below w.heap.size w w' := by
 obtain ⟨n, hnn⟩ : ∃ n, l.length = n := ⟨_, rfl⟩;have HN := Lib.hid hnn;have HW := Lib.hid h;have HV : Hid (∀ k, k < n -> ∃ u : Nat, l.getD k 0 = u /\ u < 18446744073709551616) := fun k hk => by
  have := h64 _ (getD_mem (j := k) (l := l) (by omega));exact ⟨(l.getD k 0).toNat, by omega, by omega⟩
 have HISW : Hid (∀ u : Nat, u < 18446744073709551616 -> ∀ w, _) := isw_any;have HX1 := Lib.hid (fun k (hk : k < n) hw => sz_bad (l := l) (r := r) (k := k) (by rw [HN.out]; exact hk) hw);have HX2 : Hid ((∀ k, k < n -> isW (l.getD k 0).toNat = true) -> allW l = true) := fun hh => sz_all (by rw [HN.out]; exact hh)
 have HX3 := Lib.hid (fun ha k (hk : k < n) hw => sz_big (l := l) (r := r) ha (k := k) (by rw [HN.out]; exact hk) hw);have HX4 : Hid ((∀ k, k < n -> (rW (l.getD k 0).toNat : Int) <= r) -> l.any (fun v => decide (r < (rW v.toNat : Int))) = false) := fun hh => sz_small (by rw [HN.out]; exact hh)
 have HX5 := Lib.hid (fun ha hs hr => sz_arg (l := l) (r := r) ha hs hr);have HX6 : Hid (∀ R : Nat, r = R -> allW l = true -> l.any (fun v => decide (r < (rW v.toNat : Int))) = false -> R <= 12 -> ∀ k, 1099511627776 < sumS R (l.take k) -> szE l r = 7 /\ szN l r = 0) := fun R e ha hs hR k hk => by subst e; exact sz_many ha hs hR hk
 have HX7 : Hid (∀ R : Nat, r = R -> allW l = true -> l.any (fun v => decide (r < (rW v.toNat : Int))) = false -> R <= 12 -> sumS R l <= 1099511627776 -> szE l r = 0 /\ szN l r = (sumS R l : Int)) := fun R e ha hs hR hk => by subst e; exact sz_ok ha hs hR hk
 have HSN : Hid (∀ R k, k < n -> sumS R (l.take (k + 1)) = sumS R (l.take k) + 7 ^ (R - rW (l.getD k 0).toNat)) := fun R k hk => sumS_snoc R l (by rw [HN.out]; exact hk)
 have HEND : Hid (l.take n = l) := List.take_of_length_le (by rw [hnn]; exact Nat.le_refl _);rw [hnn] at hn ⊢;generalize szE l r = E at *;generalize szN l r = N at *;clear hnn h h64
 go_enter Tryz.func56, Tryz.ntmps56
 go_wp2
 go_loopw [6] (fun i wr => ∃ (k : Nat), k <= n /\ i = .int .i64 k /\ Hid (∀ j, j < k -> isW (l.getD j 0).toNat = true) /\ Hid (Below w.heap.size w wr)) (fun i _ => n - (intOf i).toNat)
 case atStart => exact ⟨0, by omega, rfl, fun j hj => by omega, Below.refl _ _⟩
 case round =>
  obtain ⟨k, hk, rfl, HA, HI⟩ := hrel;have hsz := HI.out.size;by_cases hlt : k < n
  ·obtain ⟨g, off, rfl, hg, hc⟩ := (HW.out.below HI.out hB) (by rw [HN.out]; omega)
   have c0 := hc k (by rw [HN.out]; exact hlt);obtain ⟨u, hu, hu2⟩ := HV.out k hlt;have hx1 := HX1.out k hlt;have ha2 : isW (l.getD k 0).toNat = true -> ∀ j, j < k + 1 -> isW (l.getD j 0).toNat = true := fun hk2 j hj => by
    by_cases e : j = k
    ·rw [e]; exact hk2
    ·exact HA.out j (by omega)
   rw [hu, Int.toNat_natCast] at hx1 ha2;rw [hu] at c0;have HIW := Lib.hid (HISW.out u hu2);have hgw : g < wr.heap.size := by omega
   have q1 : decide ((k : Int) < (n : Int)) = true := decide_eq_true (by omega);cases hiw : isW u with
   | false =>
    obtain ⟨e1, e2⟩ := hx1 hiw;have HIW2 : Hid (∀ w, Calls Tryz.prog 53 #[.int .u64 u] w fun e w' => e = .returned (.bool false) /\ Below w.heap.size w w') := fun w => by have := HIW.out w; rwa [hiw] at this
    have HE := Lib.hid (And.intro e1 e2);clear hc hx1 ha2 e1 e2 hiw HIW hu
    go_wp2_with fail
    refine (HIW2.out _).mono ?_;rintro e w2 ⟨rfl, hb2⟩;have HB2 := Lib.hid (HI.out.trans (hb2.mono hsz));clear hb2;go_wp2;go_ret2;exact ⟨by rw [HE.out.1, HE.out.2]; rfl, HB2.out⟩
   | true =>
    have HA2 := Lib.hid (ha2 hiw);have HIW2 : Hid (∀ w, Calls Tryz.prog 53 #[.int .u64 u] w fun e w' => e = .returned (.bool true) /\ Below w.heap.size w w') := fun w => by have := HIW.out w; rwa [hiw] at this
    clear hc hx1 ha2 hiw HIW hu
    go_wp2_with fail
    refine (HIW2.out _).mono ?_;rintro e w2 ⟨rfl, hb2⟩;have HB2 := Lib.hid (HI.out.trans (hb2.mono hsz));clear hb2 c0;go_wp2
    go_roundw
    case rel => exact ⟨k + 1, by omega, by go_num, HA2.out, HB2.out⟩
    case measure => simp [intOf]; omega
  ·obtain rfl : k = n := by omega
   have HAL := Lib.hid (HX2.out HA.out);have q1 : decide ((k : Int) < (k : Int)) = false := decide_eq_false (by omega);obtain ⟨w0, rfl⟩ : ∃ w0, w0 = wr := ⟨_, rfl⟩;clear HX1 HX2 HISW HA;go_wp2
   go_loopw [7] (fun i wr => ∃ (j : Nat), j <= k /\ i = .int .i64 j /\ Hid (∀ m, m < j -> (rW (l.getD m 0).toNat : Int) <= r) /\ Hid (Below w.heap.size w wr)) (fun i _ => k - (intOf i).toNat)
   case atStart => exact ⟨0, by omega, rfl, fun j hj => by omega, HI.out⟩
   case round =>
    obtain ⟨j, hj, rfl, HA, HI⟩ := hrel;have hsz := HI.out.size;by_cases hlt : j < k
    ·obtain ⟨g, off, rfl, hg, hc⟩ := (HW.out.below HI.out hB) (by rw [HN.out]; omega)
     have c0 := hc j (by rw [HN.out]; exact hlt);obtain ⟨u, hu, hu2⟩ := HV.out j hlt;have hx3 := HX3.out HAL.out j hlt;have ha2 : (rW (l.getD j 0).toNat : Int) <= r -> ∀ m, m < j + 1 -> (rW (l.getD m 0).toNat : Int) <= r := fun hk2 m hm => by
      by_cases e : m = j
      ·rw [e]; exact hk2
      ·exact HA.out m (by omega)
     rw [hu, Int.toNat_natCast] at hx3 ha2;rw [hu] at c0;obtain ⟨v1, -, -⟩ := head_val u hu2;have hr16 := rW_lt u;generalize rW u = R at *;have hgw : g < wr.heap.size := by omega
     have q1 : decide ((j : Int) < (k : Int)) = true := decide_eq_true (by omega);by_cases hbig : r < (R : Int)
     ·obtain ⟨e1, e2⟩ := hx3 hbig
      have HE := Lib.hid (And.intro e1 e2);have q2 : decide (r < (R : Int)) = true := decide_eq_true hbig;clear hc hx3 ha2 e1 e2 hu hbig;go_wp2;go_ret2;exact ⟨by rw [HE.out.1, HE.out.2]; rfl, HI.out⟩
     ·have HA2 := Lib.hid (ha2 (by omega))
      have q2 : decide (r < (R : Int)) = false := decide_eq_false hbig;clear hc hx3 ha2 hu hbig;go_wp2
      go_roundw
      case rel => exact ⟨j + 1, by omega, by go_num, HA2.out, HI.out⟩
      case measure => simp [intOf]; omega
    ·obtain rfl : j = k := by omega
     have HSM := Lib.hid (HX4.out HA.out);have HLE := HA;have q1 : decide ((j : Int) < (j : Int)) = false := decide_eq_false (by omega);obtain ⟨w1, rfl⟩ : ∃ w1, w1 = wr := ⟨_, rfl⟩;clear HX3 HX4 HA;by_cases hr : r < 0 ∨ 12 < r
     ·have HE := Lib.hid (HX5.out HAL.out HSM.out hr)
      have hr' : (decide (r < 0) = true) ∨ (decide (r < 0) = false /\ decide (12 < r) = true) := by
       by_cases h : r < 0
       ·exact .inl (decide_eq_true h)
       ·exact .inr ⟨decide_eq_false h, decide_eq_true (by omega)⟩
      clear hr;rcases hr' with q1 | ⟨q1, q2⟩
      all_goals
       go_wp2;go_ret2;exact ⟨by rw [HE.out.1, HE.out.2]; rfl, HI.out⟩
     ·obtain ⟨R, rfl⟩ : ∃ R : Nat, r = R := ⟨r.toNat, by omega⟩
      have hR : R <= 12 := by omega
      have p1 : decide ((R : Int) < 0) = false := decide_eq_false (by omega);have p2 : decide (12 < (R : Int)) = false := decide_eq_false (by omega);have p3 : decide (12 < R) = false := decide_eq_false (by omega);have HX6' := Lib.hid (HX6.out R rfl HAL.out HSM.out hR);have HX7' := Lib.hid (HX7.out R rfl HAL.out HSM.out hR);have HSV : Hid (∀ d, d <= 12 -> ∀ w, Calls Tryz.prog 93 #[.int .i64 ((d : Nat) : Int)] w fun e w' => e = .returned (.int .i64 ((7 ^ d : Nat) : Int)) /\ Below w.heap.size w w') := fun d hd w => by
       have := rseven_in d hd w
       rwa [show ((7 : Int) ^ d) = ((7 ^ d : Nat) : Int) by rw [Int.natCast_pow]; rfl] at this
      clear HX5 HX6 HX7 hr HAL HSM;go_wp2
      go_loopw [8, 9] (fun sv i wr => ∃ (k S : Nat), k <= j /\ i = .int .i64 k /\ sv = .int .i64 S /\ S <= 1099511627776 /\ Hid (S = sumS R (l.take k)) /\ Hid (Below w.heap.size w wr)) (fun _ i _ => j - (intOf i).toNat)
      case atStart => exact ⟨0, 0, by omega, rfl, rfl, by omega, rfl, HI.out⟩
      case round =>
       obtain ⟨k, S, hk, rfl, rfl, hS, HS, HI⟩ := hrel;have hsz := HI.out.size;by_cases hlt : k < j
       ·obtain ⟨g, off, rfl, hg, hc⟩ := (HW.out.below HI.out hB) (by rw [HN.out]; omega)
        have c0 := hc k (by rw [HN.out]; exact hlt);obtain ⟨u, hu, hu2⟩ := HV.out k hlt;have hsn := HSN.out R k hlt;have hle := HLE.out k hlt;rw [<- HS.out, hu, Int.toNat_natCast] at hsn;rw [hu, Int.toNat_natCast] at hle;rw [hu] at c0;obtain ⟨v1, -, -⟩ := head_val u hu2;generalize rW u = q at *;obtain ⟨d, hd⟩ : ∃ d, R - q = d := ⟨_, rfl⟩;have hd2 : (R : Int) - (q : Int) = (d : Int) := by omega
        have HSW := Lib.hid (HSV.out d (by omega));have hp := seven_le (k := d) (by omega);rw [hd] at hsn;generalize 7 ^ d = P at *;have hx6 := HX6'.out (k + 1);rw [hsn] at hx6;have HSN2 := Lib.hid hsn;have hgw : g < wr.heap.size := by omega
        have hq15 : q <= 15 := by omega
        have q1 : decide ((k : Int) < (j : Int)) = true := decide_eq_true (by omega);have hsum : (S : Int) + (P : Int) = ((S + P : Nat) : Int) := by omega
        obtain ⟨S2, hS2⟩ : ∃ S2, S + P = S2 := ⟨_, rfl⟩;rw [hS2] at hsum hx6;have HSN3 : Hid (S2 = sumS R (l.take (k + 1))) := by show _ = _; rw [HSN2.out, hS2]
        have hS2b : S2 <= 2199023255552 := by omega
        clear hc hu hsn HSN2 hle hd hS2
        go_wp2_with fail
        refine (HSW.out _).mono ?_;rintro e w2 ⟨rfl, hb2⟩;have HB2 := Lib.hid (HI.out.trans (hb2.mono hsz));clear hb2 c0;by_cases hbig : 1099511627776 < S2
        ·have HE := Lib.hid (hx6 hbig)
         have q2 : decide (1099511627776 < (S2 : Int)) = true := decide_eq_true (by omega);clear hx6 hbig;go_wp2;go_ret2;exact ⟨by rw [HE.out.1, HE.out.2]; rfl, HB2.out⟩
        ·have q2 : decide (1099511627776 < (S2 : Int)) = false := decide_eq_false (by omega)
         clear hx6;go_wp2
         go_roundw
         case rel => exact ⟨k + 1, S2, by omega, by go_num, rfl, by omega, HSN3.out, HB2.out⟩
         case measure => simp [intOf]; omega
       ·obtain rfl : k = j := by omega
        have q1 : decide ((k : Int) < (k : Int)) = false := decide_eq_false (by omega);have hs := HS.out;rw [HEND.out] at hs;have he := HX7'.out (by rw [<- hs]; exact hS);rw [<- hs] at he;have HE := Lib.hid he;clear hs he;go_wp2;go_ret2;exact ⟨by rw [HE.out.1, HE.out.2]; rfl, HI.out⟩
theorem kid_of {r : Nat} {y : E2} (hy : okB (r + 1 : Nat) y = true) : (wordN (r + 1) y : Int) ∈ kidsW r (wordN r (upE y)) := by
 have hr : r + 1 <= 12 := (okB_parts hy).1;obtain ⟨-, p, hp, e, hk⟩ := word_parts (r := r) ⟨y, hy, rfl⟩;obtain ⟨d, hd, e2⟩ := (kidsW_mem hr _).1 hk;have e3 : y = downE p d := (word_inj hy (kid_ok hp hr hd) (by omega)).2;rw [e3, upE_down p hd, <- e3];exact hk
theorem pack_cov : ∀ (r : Nat) (A : List Int), Sized r A -> ∀ y, okB r y = true -> ((∃ k, k <= r /\ (wordN k (upN (r - k) y) : Int) ∈ packN r A) ↔ (wordN r y : Int) ∈ A)
 | 0, A, _, y, hy => by
  constructor
  ·rintro ⟨k, hk, hm⟩
   obtain rfl : k = 0 := by omega
   exact hm
  ·intro h; exact ⟨0, Nat.le_refl _, h⟩
 | r + 1, A, hs, y, hy => by
  have hr : r + 1 <= 12 := (okB_parts hy).1;have hu := up_ok hy;have hn := next_sized hs;have ih := pack_cov r (nextL A) hn (upE y) hu;have hkid := kid_of hy;have hfull : fullB A (wordN (r + 1) y : Int) = true ↔ (wordN r (upE y) : Int) ∈ nextL A := by
   rw [full_iff hr hu hkid, next_mem hr hs];constructor
   ·intro h; exact ⟨_, hu, rfl, h⟩
   ·rintro ⟨p, hp, e, h⟩
    have e3 : upE y = p := (word_inj hu hp (by omega)).2;rw [e3]; exact h
  show (∃ k, k <= r + 1 /\ _ ∈ doneL A ++ packN r (nextL A)) ↔ _;constructor
  ·rintro ⟨k, hk, hm⟩
   rcases List.mem_append.1 hm with h1 | h1
   ·have h2 := (List.mem_filter.1 h1).1
    have ho : okB k (upN (r + 1 - k) y) = true := upN_ok _ (by rw [show k + (r + 1 - k) = r + 1 by omega]; exact hy);obtain rfl : k = r + 1 := sized_unlike ⟨_, ho, rfl⟩ (hs _ h2);rw [Nat.sub_self] at h2;exact h2
   ·have ho : okB k (upN (r + 1 - k) y) = true := upN_ok _ (by rw [show k + (r + 1 - k) = r + 1 by omega]; exact hy)
    obtain ⟨k', hk', hz⟩ := packN_sized r _ hn _ h1;obtain rfl : k = k' := sized_unlike ⟨_, ho, rfl⟩ hz;rw [show r + 1 - k = (r - k) + 1 by omega, <- upN_one] at h1;have h2 := hfull.2 (ih.1 ⟨k, hk', h1⟩);exact (full_iff hr hu hkid).1 h2 _ hkid
  ·intro hA
   by_cases hf : fullB A (wordN (r + 1) y : Int) = true
   ·obtain ⟨k, hk, h1⟩ := ih.2 (hfull.1 hf)
    refine ⟨k, by omega, List.mem_append.2 (.inr ?_)⟩;rw [show r + 1 - k = (r - k) + 1 by omega, <- upN_one];exact h1
   ·refine ⟨r + 1, Nat.le_refl _, List.mem_append.2 (.inl (List.mem_filter.2 ⟨?_, ?_⟩))⟩
    ·rw [Nat.sub_self]; exact hA
    ·rw [Nat.sub_self]
     show (!fullB A (wordN (r + 1) y : Int)) = true;rw [Bool.eq_false_iff.2 hf]; rfl
theorem base_anc {A : List Int} (hs : Sized 0 A) {k : Nat} {x : E2} {j : Nat} (hx : okB k x = true) (hj : j < k) (h1 : (wordN k x : Int) ∈ A) : False := by
 have h2 : k = 0 := sized_unlike ⟨x, hx, rfl⟩ (hs _ h1);omega
theorem pack_anc (r : Nat) : ∀ (A : List Int), Sized r A -> ∀ (k : Nat) (x : E2) (j : Nat), okB k x = true -> j < k -> (wordN k x : Int) ∈ packN r A -> (wordN j (upN (k - j) x) : Int) ∈ packN r A -> False := by
 induction r with
 | zero =>
  intro A hs k x j hx hj h1 _;exact base_anc hs hx hj h1
 | succ r ih =>
  intro A hs k x j hx hj h1 h2;have hn := next_sized hs;have hk12 := (okB_parts hx).1;have hoj : okB j (upN (k - j) x) = true := upN_ok _ (by rw [show j + (k - j) = k by omega]; exact hx);rcases List.mem_append.1 h1 with h3 | h3
  ·have h4 := List.mem_filter.1 h3
   obtain rfl : k = r + 1 := sized_unlike ⟨_, hx, rfl⟩ (hs _ h4.1);rcases List.mem_append.1 h2 with h5 | h5
   ·have := sized_unlike ⟨_, hoj, rfl⟩ (hs _ (List.mem_filter.1 h5).1)
    omega
   ·have hu := up_ok hx
    rw [show r + 1 - j = (r - j) + 1 by omega, <- upN_one] at h5;have h6 := (pack_cov r (nextL A) hn (upE x) hu).1 ⟨j, by omega, h5⟩;obtain ⟨p, hp, e, h7⟩ := (next_mem hk12 hs _).1 h6;have e3 : upE x = p := (word_inj hu hp (by omega)).2;have h8 := (full_iff hk12 hu (kid_of hx)).2 (by rw [e3]; exact h7);rw [h8] at h4;exact absurd h4.2 (by simp)
  ·obtain ⟨k', hk', hz⟩ := packN_sized r _ hn _ h3
   obtain rfl : k = k' := sized_unlike ⟨_, hx, rfl⟩ hz;rcases List.mem_append.1 h2 with h5 | h5
   ·have := sized_unlike ⟨_, hoj, rfl⟩ (hs _ (List.mem_filter.1 h5).1)
    omega
   ·exact ih (nextL A) hn k x j hx hj h3 h5
theorem dsV_word' {R k : Nat} {z : E2} (hz : okB k z = true) : dsV R (wordN k z : Int) = dsN (R - k) k z := by
 obtain ⟨a, b, c⟩ := word_cell hz;unfold dsV;rw [Int.toNat_natCast, b, c]
theorem cmp_pack {R : Nat} {l : List Int} (hs : Sized R l) (hl : l.length <= 20000) : cmpE l = 0 /\ cmpL l = packF R l := by
 obtain ⟨g1, g2, g3⟩ := sized_cmp hs hl;refine ⟨g1, ?_⟩;by_cases h : l = []
 ·rw [g3 h, h]
  unfold packF;rw [setF_nil, packN_nil, setF_nil]
 ·exact g2 h
theorem pk_sized {R : Nat} {l : List Int} (hs : Sized R l) {v : Int} (hv : v ∈ packF R l) : ∃ k : Nat, k <= R /\ ∃ z, okB k z = true /\ v = (wordN k z : Int) :=
 packN_sized R (setF l) (sized_set hs) v ((setF_mem _ _).1 hv)
theorem pk_cov {R : Nat} {l : List Int} (hs : Sized R l) {y : E2} (hy : okB R y = true) : (∃ v ∈ packF R l, (wordN R y : Int) ∈ dsV R v) ↔ (wordN R y : Int) ∈ l := by
 have hR := (okB_parts hy).1;rw [<- setF_mem l, <- pack_cov R (setF l) (sized_set hs) y hy];constructor
 ·rintro ⟨v, hv, hm⟩
  obtain ⟨k, hk, x, hx, rfl⟩ := pk_sized hs hv;rw [dsV_word' hx] at hm;obtain ⟨y', hy', hu, e⟩ := (ds_mem (R - k) k x (by omega) hx _).1 hm;have e3 : y = y' := (word_inj hy hy' (by rw [show k + (R - k) = R by omega] at e ⊢; omega)).2;rw [<- e3] at hu;refine ⟨k, hk, ?_⟩;rw [hu];exact (setF_mem _ _).1 hv
 ·rintro ⟨k, hk, hm⟩
  have ho : okB k (upN (R - k) y) = true := upN_ok _ (by rw [show k + (R - k) = R by omega]; exact hy);refine ⟨_, (setF_mem _ _).2 hm, ?_⟩;rw [dsV_word' ho];refine (ds_mem (R - k) k _ (by omega) ho _).2 ⟨y, by rw [show k + (R - k) = R by omega]; exact hy, rfl, by rw [show k + (R - k) = R by omega]⟩
theorem pk_apart {R : Nat} {l : List Int} (hs : Sized R l) (hR : R <= 12) {v u : Int} (hv : v ∈ packF R l) (hu : u ∈ packF R l) (hne : v ≠ u) {t : Int} (h1 : t ∈ dsV R v) (h2 : t ∈ dsV R u) : False := by
 obtain ⟨k, hk, x, hx, rfl⟩ := pk_sized hs hv;obtain ⟨j, hj, y, hy, rfl⟩ := pk_sized hs hu;rw [dsV_word' hx] at h1;rw [dsV_word' hy] at h2;obtain ⟨a, ha, ea, e1⟩ := (ds_mem (R - k) k x (by omega) hx _).1 h1;obtain ⟨b, hb, eb, e2⟩ := (ds_mem (R - j) j y (by omega) hy _).1 h2;rw [show k + (R - k) = R by omega] at ha e1;rw [show j + (R - j) = R by omega] at hb e2;have e3 : a = b := (word_inj ha hb (by omega)).2;rw [<- e3] at eb;have key : ∀ (p q : Nat) (s t : E2), p < q -> q <= R -> okB q t = true -> upN (R - p) a = s -> upN (R - q) a = t -> (wordN p s : Int) ∈ packF R l -> (wordN q t : Int) ∈ packF R l -> False := fun p q s t hpq hqR ht es et m1 m2 => by
  refine pack_anc R (setF l) (sized_set hs) q t p ht hpq ((setF_mem _ _).1 m2) ?_;rw [<- et, upN_add, show (R - q) + (q - p) = R - p by omega, es];exact (setF_mem _ _).1 m1
 rcases Nat.lt_trichotomy k j with h | h | h
 ·exact key k j x y h hj hy ea eb hv hu
 ·subst h
  exact hne (by rw [<- ea, <- eb])
 ·exact key j k y x h hk hx eb ea hu hv
theorem flat_len (R : Nat) : ∀ l : List Int, (l.flatMap (dsV R)).length = sumS R l
 | [] => rfl
 | v :: l => by
  rw [List.flatMap_cons, List.length_append, flat_len R l];unfold dsV;rw [ds_len]; rfl
theorem len_perm {a b : List Int} (ha : a.Nodup) (hb : b.Nodup) (h : ∀ x, x ∈ a ↔ x ∈ b) : a.length = b.length := by
 refine List.Perm.length_eq (List.perm_iff_count.2 fun x => ?_);rw [ha.count, hb.count];simp only [h]
theorem pk_mem {R : Nat} {l : List Int} (hs : Sized R l) (hR : R <= 12) (t : Int) : t ∈ (packF R l).flatMap (dsV R) ↔ t ∈ l := by
 rw [List.mem_flatMap];constructor
 ·rintro ⟨v, hv, ht⟩
  obtain ⟨k, hk, x, hx, rfl⟩ := pk_sized hs hv;have ht2 := ht;rw [dsV_word' hx] at ht2;obtain ⟨a, ha, -, e1⟩ := (ds_mem (R - k) k x (by omega) hx _).1 ht2;rw [show k + (R - k) = R by omega] at ha e1;subst e1;exact (pk_cov hs ha).1 ⟨_, hv, ht⟩
 ·intro ht
  obtain ⟨y, hy, rfl⟩ := hs t ht;exact (pk_cov hs hy).2 ht
theorem pk_sum {R : Nat} {l : List Int} (hs : Sized R l) (hR : R <= 12) : sumS R (packF R l) = (setF l).length := by
 rw [<- flat_len];refine len_perm ?_ (setF_up l).nodup fun t => by rw [pk_mem hs hR, setF_mem]
 refine List.nodup_iff_pairwise_ne.2 (List.pairwise_flatMap.2 ⟨fun v hv => ?_, ?_⟩)
 ·obtain ⟨k, hk, x, hx, rfl⟩ := pk_sized hs hv
  rw [dsV_word' hx];exact List.nodup_iff_pairwise_ne.1 (ds_up (R - k) k x (by omega) hx).nodup
 ·refine (List.nodup_iff_pairwise_ne.1 (setF_up (packN R (setF l))).nodup).imp_of_mem fun {a b} ha hb hab x hx y hy e => ?_
  subst e;exact pk_apart hs hR ha hb hab hx hy
theorem pk_sz {R : Nat} {l m : List Int} (hR : R <= 12) (hv : ∀ v ∈ m, ∃ k : Nat, k <= R /\ ∃ z, okB k z = true /\ v = (wordN k z : Int)) (hs : sumS R m <= 20000) : szE m R = 0 /\ szN m R = (sumS R m : Int) /\ sprE m R = 0 /\ sprL m R = setF (m.flatMap (dsV R)) := by
 have ha : allW m = true := List.all_eq_true.2 fun v h => by
  obtain ⟨k, -, z, hz, rfl⟩ := hv v h;exact (word_cell hz).1
 have hb : m.any (fun v => decide ((R : Int) < (rW v.toNat : Int))) = false := by
  rw [List.any_eq_false];intro v h;obtain ⟨k, hk, z, hz, rfl⟩ := hv v h;rw [Int.toNat_natCast, (word_cell hz).2.1, decide_eq_true_eq];omega
 obtain ⟨e1, e2⟩ := sz_ok ha hb hR (by omega);have e3 : sprE m R = 0 := by unfold sprE; rw [e1, if_pos rfl, Int.toNat_natCast, if_neg (by omega)]
 exact ⟨e1, e2, e3, by unfold sprL; rw [e3, if_pos rfl, Int.toNat_natCast]⟩
theorem pk_spread {R : Nat} {l : List Int} (hs : Sized R l) (hR : R <= 12) (hl : l.length <= 20000) : szE (packF R l) R = 0 /\ szN (packF R l) R = ((setF l).length : Int) /\ sprE (packF R l) R = 0 /\ sprL (packF R l) R = setF l := by
 have h1 := setF_length l;obtain ⟨e1, e2, e3, e4⟩ := pk_sz (l := l) hR (fun v hv => pk_sized hs hv) (by rw [pk_sum hs hR]; omega);rw [pk_sum hs hR] at e2;refine ⟨e1, e2, e3, ?_⟩;rw [e4];exact (setF_up _).ext (setF_up _) fun t => by rw [setF_mem, setF_mem, pk_mem hs hR]
theorem pk_64 {R : Nat} {l : List Int} (hs : Sized R l) : In64 (packF R l) := fun v hv => by
 obtain ⟨k, hk, z, hz, rfl⟩ := pk_sized hs hv;have := (wordN_lt hz).1;exact ⟨by omega, by omega⟩
theorem pk_len {R : Nat} {l : List Int} (hs : Sized R l) (hR : R <= 12) (hl : l.length <= 20000) : (packF R l).length <= 20000 := by
 have h1 := pk_sum hs hR;have h2 := setF_length l;have h3 : ∀ (R : Nat) (m : List Int), m.length <= sumS R m := fun R m => by
  induction m with
  | nil => exact Nat.le_refl _
  | cons v m ih =>
   show m.length + 1 <= 7 ^ (R - rW v.toNat) + sumS R m;have : 0 < 7 ^ (R - rW v.toNat) := Nat.pow_pos (by decide);omega
 have := h3 R (packF R l);omega
end
section
open Go.RowKit Go.Lib Wd Cv
def nbL (x : Int) : List Int := rgsL x.toNat 1 1 1
def bordB (L : List Int) (x : Int) : Bool := decide ((nbL x).length < 6) || (nbL x).any fun n => !hasF L n
def bordL (L : List Int) : List Int := L.filter (bordB L)
theorem fil_sized {R : Nat} {ls : List (List (Int × Int))} {L : List Int} (h : IsFil R ls L) : Sized R L := fun x hx => by
 obtain ⟨z, h1, _, _, e⟩ := (h.2.1 x).1 hx;exact ⟨z, h1, e⟩
theorem nb_len {R : Nat} {L : List Int} (h : Sized R L) {x : Int} (hx : x ∈ L) : (nbL x).length <= 6 := by
 obtain ⟨z, hz, rfl⟩ := h x hx;unfold nbL;rw [Int.toNat_natCast];exact (nb_mem hz).2.2
theorem any_count {p : Int -> Bool} : ∀ l : List Int, ((l.any fun n => !p n) = true ↔ l.countP p < l.length)
 | [] => by simp
 | x :: l => by
  have ih := any_count (p := p) l;have hle := List.countP_le_length (p := p) (l := l);rw [List.any_cons, List.countP_cons, List.length_cons, Bool.or_eq_true, ih];cases p x
  ·simp; omega
  ·simp
theorem bord_count {L l : List Int} (h : l.length <= 6) : (decide (l.length < 6) || l.any fun n => !hasF L n) = decide (l.countP (hasF L) < 6) := by
 have h1 := any_count (p := hasF L) l;have h2 := List.countP_le_length (p := hasF L) (l := l);rw [Bool.eq_iff_iff, Bool.or_eq_true, decide_eq_true_iff, decide_eq_true_iff, h1];omega
theorem bord_up {L : List Int} (h : Up L) : Up (bordL L) := filter_up h _
theorem bord_has {L : List Int} {x : Int} (hx : x ∈ L) : hasF (bordL L) x = bordB L x := by
 rw [Bool.eq_iff_iff, hasF_iff];unfold bordL;rw [List.mem_filter];exact ⟨fun h => h.2, fun h => ⟨hx, h⟩⟩
theorem fil_pack {R : Nat} (hR : R <= 12) {ls : List (List (Int × Int))} {L : List Int} (h : IsFil R ls L) : cmpE L = 0 /\ sprE (cmpL L) R = 0 /\ sprL (cmpL L) R = L /\ (cmpL L).length <= 20000 /\ In64 (cmpL L) := by
 have hs := fil_sized h;obtain ⟨h1, h2⟩ := cmp_pack hs h.2.2;obtain ⟨_, _, h3, h4⟩ := pk_spread hs hR h.2.2;rw [h2];exact ⟨h1, h3, h4.trans (setF_up_eq h.1), pk_len hs hR h.2.2, pk_64 hs⟩
end
section
open Go.RowKit Go.Lib Go.Sort Wd Cv
def GoodF (w : World) (R : Nat) (ls : List (List (Int × Int))) (f : List Int -> List Int) (e : Ending) (w' : World) : Prop :=
 ∃ L lo lc ln, IsFil R ls L /\ e = .returned (.tuple #[.slice lo ln lc, .int .i64 0]) /\ LAt w' lo ln lc (f L) /\ Below w.heap.size w w'
theorem packed_good {v1 v2 : Value} {R : Nat} {ls : List (List (Int × Int))} {w : World} (hF : Calls Tryz.prog 8 #[v1, v2] w (GoodF w R ls id)) : Calls Tryz.prog 22 #[v1, v2] w (GoodF w R ls cmpL) := by
 have HF := Lib.hid hF;clear hF
 go_enter Tryz.func22, Tryz.ntmps22
 go_wp2_with fail
 refine HF.out.mono ?_;rintro e w1 ⟨L, lo, lc, ln, hL, rfl, hA, hb1⟩;have hs := fil_sized hL;have hce : cmpE L = 0 := (cmp_pack hs hL.2.2).1;have hc := compact_any lo lc L w1 w1.heap.size hA.2.1 (Nat.le_refl _) (by have := hL.2.2; omega) (sized_64 hs);have hln : L.length = ln := hA.1.symm;rw [hce, hln] at hc;have HC := Lib.hid hc;have HL := Lib.hid hL;have HB1 := Lib.hid hb1;clear hs hce hc hln hA hL hb1
 go_wp2_with fail
 refine HC.out.mono ?_;rintro e w2 ⟨ao, c, rfl, ho, hb2⟩;have HK := Lib.hid (LAt.of_own rfl ho);have HB2 := Lib.hid (HB1.out.trans (hb2.mono HB1.out.size));clear ho hb2;go_wp2;go_ret2;exact ⟨L, ao, c, _, HL.out, rfl, HK.out, HB2.out⟩
theorem border_good {v1 v2 : Value} {R : Nat} {ls : List (List (Int × Int))} {w : World} (hF : Calls Tryz.prog 8 #[v1, v2] w (GoodF w R ls id)) : Calls Tryz.prog 21 #[v1, v2] w (GoodF w R ls bordL) := by
 obtain ⟨i0, hi, hz0, hz1, hz2⟩ := info_parts info_u;have HF := Lib.hid hF;clear hF
 go_enter Tryz.func21, Tryz.ntmps21
 go_wp2_with fail
 refine HF.out.mono ?_;rintro e w1 ⟨L, lo, lc, ln, hL, rfl, hA, hb1⟩;obtain ⟨w2, hw2⟩ : ∃ W, w1.alloc (.cells #[.slice lo ln lc] 22) = W := ⟨_, rfl⟩;obtain ⟨w3, hw3⟩ : ∃ W, w2.alloc (.cells #[.func (.func 43) #[] #[.pointer (some ⟨w1.heap.size, 0, none⟩)]] 62) = W := ⟨_, rfl⟩;have hb2 : Below w1.heap.size w1 w2 := by rw [<- hw2]; exact (Below.refl _ _).alloc (Nat.le_refl _) _
 have hb3 : Below w2.heap.size w2 w3 := by rw [<- hw3]; exact (Below.refl _ _).alloc (Nat.le_refl _) _
 have z0 : w2.heap[w1.heap.size]? = some (.cells #[.slice lo ln lc] 22 (0, 0)) := by rw [<- hw2]; exact heap_new _ _ _ rfl
 have z1 : w3.heap[w2.heap.size]? = some (.cells #[.func (.func 43) #[] #[.pointer (some ⟨w1.heap.size, 0, none⟩)]] 62 (0, 0)) := by rw [<- hw3]; exact heap_new _ _ _ rfl
 have g0 := (Array.getElem?_eq_some_iff.1 z0).1;have g1 := (Array.getElem?_eq_some_iff.1 z1).1;have l0 : w2.cell? ⟨w1.heap.size, 0, none⟩ = some (.slice lo ln lc) := cell_of_row _ _ 0 _ _ _ z0;have l1 : w3.cell? ⟨w2.heap.size, 0, none⟩ = some (.func (.func 43) #[] #[.pointer (some ⟨w1.heap.size, 0, none⟩)]) := cell_of_row _ _ 0 _ _ _ z1;have l2 : w3.cell? ⟨w1.heap.size, 0, none⟩ = some (.slice lo ln lc) := (hb3.cell (p := ⟨w1.heap.size, 0, none⟩) g0).trans l0;have HW2 := Lib.hid hw2;have HW3 := Lib.hid hw3;have HB3 := Lib.hid (hb1.trans ((hb2.trans (hb3.mono hb2.size)).mono hb1.size));have HA : Hid (LAt w3 lo ln lc L) := LAt.later (LAt.later hA hb2) hb3;have HL := Lib.hid hL;have hln : ln <= 20000 := by have h1 : ln = L.length := hA.1; have := hL.2.2; omega
 have hg2 : w1.heap.size < w3.heap.size := Nat.lt_of_lt_of_le g0 hb3.size;clear hw2 hw3 hb1 hb2 hb3 z0 z1 hA hL l0 g0
 as_aux_lemma =>
  go_upto_region 7 with (first | rw [HW2.out] | rw [HW3.out])
  as_aux_lemma =>
   go_loopw [9, 26] (fun ov iv wr => ∃ (k m : Nat), k <= ln /\ m <= k /\ iv = .int .i64 k /\ Hid (((L.take k).filter (bordB L)).length = m) /\ wr.ownsRow w3.heap.size 35 1 ov m (uV ((L.take k).filter (bordB L))) /\ Below w3.heap.size w3 wr) (fun _ iv _ => ln - (intOf iv).toNat)
   case atStart => exact ⟨0, 0, Nat.zero_le _, Nat.le_refl _, rfl, rfl, World.ownsRow_nil _ _ _ _, Below.refl _ _⟩
   case round =>
    obtain ⟨k, m, hk, hmk, rfl, HM, hown, hbel⟩ := hrel;have HLEN : Hid (ln = L.length) := HA.out.1;obtain ⟨oo, oc, rfl, _, _⟩ := own_form hown;have hsz := hbel.size;by_cases hlt : k < ln
    ·have hkl : k < L.length := by rw [<- HLEN.out]; exact hlt
     have hkm : L.getD k 0 ∈ L := by rw [List.getD_eq_getElem?_getD, List.getElem?_eq_getElem hkl]; exact List.getElem_mem hkl
     have HKY := HA.out.later hbel;obtain ⟨gb, off, rfl, hgb, hcc⟩ := HKY.2.1 (by rw [<- HLEN.out]; omega);have c0 := hcc k hkl;obtain ⟨z, hz, hx⟩ := fil_sized HL.out _ hkm;have hw64 := (wordN_lt hz).1;have h6 := nb_len (fil_sized HL.out) hkm;rw [hx] at h6;unfold nbL at h6;rw [Int.toNat_natCast] at h6;have HT : Hid ((L.take (k + 1)).filter (bordB L) = (L.take k).filter (bordB L) ++ if bordB L (L.getD k 0) then [L.getD k 0] else []) := by
      show _ = _;rw [List.take_succ_eq_append_getElem hkl, List.filter_append, List.getD_eq_getElem?_getD, List.getElem?_eq_getElem hkl, Option.getD_some];congr 1;cases h : bordB L L[k] <;> simp [h]
     have HBQ : Hid (bordB L (L.getD k 0) = (decide ((rgsL (wordN R z) 1 1 1).length < 6) || (rgsL (wordN R z) 1 1 1).any fun n => !hasF L n)) := by
      show _ = _;unfold bordB nbL;rw [hx, Int.toNat_natCast]
     rw [hx] at c0 HT HBQ;generalize wordN R z = wd at *;have HN := Lib.hid (nei_any wd (by omega) wr);have hki : (k : Int) < (ln : Int) := by omega
     clear hkl hkm HKY hcc hz hx hw64;generalize rgsL wd 1 1 1 = nb at *;generalize rgsE wd 1 1 = ne at *;obtain ⟨Fn, hFn⟩ : ∃ q, (L.take (k + 1)).filter (bordB L) = q := ⟨_, rfl⟩;rw [hFn] at HT;have HFE := Lib.hid hFn;clear hFn;generalize (L.take k).filter (bordB L) = Fo at *
     as_aux_lemma =>
      go_wp2_with fail
      refine HN.out.mono ?_;rintro e w4 ⟨no, nc, rfl, hno, hb4⟩;have HB4 := Lib.hid (hbel.trans (hb4.mono hsz));have hown4 := own_later hown hb4;have hsz4 := HB4.out.size;have hask : AskU 47 #[.pointer (some ⟨w2.heap.size, 0, none⟩)] (fun n => !hasF L n) w4 w4.heap.size nb := fun W x hW _ => by
       have hW2 : Below w3.heap.size w3 W := ⟨hW.1.trans HB4.out.os, hW.2.1.trans HB4.out.tape, hW.2.2.1.trans HB4.out.output, Nat.le_trans hsz4 hW.2.2.2.1, fun q hq => (hW.2.2.2.2 q (Nat.lt_of_lt_of_le hq hsz4) (fun e => by omega)).trans (HB4.out.block q hq)⟩;exact bdask_any x ((hW2.cell (p := ⟨w1.heap.size, 0, none⟩) hg2).trans l2) ((hW2.cell (p := ⟨w2.heap.size, 0, none⟩) g1).trans l1) (HA.out.later hW2) HL.out.1.rising (by omega)
      obtain ⟨nn, hnn⟩ : ∃ nn, nb.length = nn := ⟨_, rfl⟩;have HCO : Hid (nn <= 1000000 -> Calls Tryz.prog 46 #[.slice no nn nc, .func (.func 47) #[] #[.pointer (some ⟨w2.heap.size, 0, none⟩)]] w4 fun e w' => e = .returned (.bool (nb.any fun n => !hasF L n)) /\ Below w4.heap.size w4 w') := fun hle => bdcontains_any _ _ no nn nc nb w4 w4.heap.size hnn hle hno hask
      rw [hnn] at HBQ h6;rw [hnn];clear hno hb4 hask hown HN c0 hnn;generalize (nb.any fun n => !hasF L n) = anyb at *;have hmk1 : m <= 20000 := by omega
      clear hsz
      as_aux_lemma =>
       by_cases h66 : nn < 6
       ·have q6 : decide ((nn : Int) < 6) = true := decide_eq_true (by omega)
        have HBT : Hid (bordB L (wd : Int) = true) := by
         show _ = _;rw [HBQ.out, decide_eq_true h66]; rfl
        clear HBQ h66 HCO;have HFN : Hid (uV Fn = uV Fo ++ [.int .u64 (wd : Int)] /\ Fn.length = m + 1) := by
         have h := HT.out;rw [HBT.out, if_pos rfl] at h;rw [h];exact ⟨uV_snoc _ _, by rw [List.length_append, HM.out]; rfl⟩
        clear HT HM
        go_wp2_with (at_builtin; refine wpList_append_own _ rfl (.tmp 43) (.tmp 45) 22 rfl w3.heap.size 35 i0 (.int .u64 0) 1 8 Tryz.underlying22 hi hz0 hz1 hz2 rfl (by decide) _ _ _ rfl (hown4.alloc _) ⟨w4.heap.size, 0, none⟩ 1 1 [.int .u64 wd] rfl rfl (cells_new _ _ _ _ rfl) (by simp [Value.oneCell']) (by unfold maxLen; omega) (by omega) (by simp; omega) ?_; intro v' w9 hown1 hgrow _)
        go_roundw
        case rel => exact ⟨k + 1, m + 1, by omega, by omega, by go_num, by rw [HFE.out]; exact HFN.out.2, by rw [HFE.out, HFN.out.1]; exact hown1, below_append (HB4.out.alloc (by omega) _) (hown4.alloc _) (by simp; omega) hgrow⟩
        case measure => simp [intOf]; omega
       ·have q6 : decide ((nn : Int) < 6) = false := decide_eq_false (by omega)
        have HBT : Hid (bordB L (wd : Int) = anyb) := by
         show _ = _;rw [HBQ.out, decide_eq_false h66]; rfl
        have HCA := Lib.hid (HCO.out (by omega));clear HBQ h66 HCO h6;cases anyb with
        | true =>
         have HFN : Hid (uV Fn = uV Fo ++ [.int .u64 (wd : Int)] /\ Fn.length = m + 1) := by
          have h := HT.out;rw [HBT.out, if_pos rfl] at h;rw [h];exact ⟨uV_snoc _ _, by rw [List.length_append, HM.out]; rfl⟩
         clear HT HM
         go_wp2_with (first | (go_at_call 46; refine HCA.out.mono ?_; rintro e w5 ⟨rfl, hb5⟩; have HB5 := Lib.hid (HB4.out.trans (hb5.mono hsz4)); have hown5 := own_later hown4 hb5; have hsz5 := HB5.out.size; clear hb5 hown4 HB4) | (at_builtin; refine wpList_append_own _ rfl (.tmp 43) (.tmp 45) 22 rfl w3.heap.size 35 i0 (.int .u64 0) 1 8 Tryz.underlying22 hi hz0 hz1 hz2 rfl (by decide) _ _ _ rfl (hown5.alloc _) ⟨w5.heap.size, 0, none⟩ 1 1 [.int .u64 wd] rfl rfl (cells_new _ _ _ _ rfl) (by simp [Value.oneCell']) (by unfold maxLen; omega) (by omega) (by simp; omega) ?_; intro v' w9 hown1 hgrow _))
         go_roundw
         case rel => exact ⟨k + 1, m + 1, by omega, by omega, by go_num, by rw [HFE.out]; exact HFN.out.2, by rw [HFE.out, HFN.out.1]; exact hown1, below_append (HB5.out.alloc (by omega) _) (hown5.alloc _) (by simp; omega) hgrow⟩
         case measure => simp [intOf]; omega
        | false =>
         have HFN : Hid (Fn = Fo) := by
          have h := HT.out;rw [HBT.out, if_neg (by simp), List.append_nil] at h;exact h
         clear HT
         go_wp2_with (go_at_call 46; refine HCA.out.mono ?_; rintro e w5 ⟨rfl, hb5⟩; have HB5 := Lib.hid (HB4.out.trans (hb5.mono hsz4)); have hown5 := own_later hown4 hb5; clear hb5)
         go_roundw
         case rel => exact ⟨k + 1, m, by omega, by omega, by go_num, by rw [HFE.out, HFN.out]; exact HM.out, by rw [HFE.out, HFN.out]; exact hown5, HB5.out⟩
         case measure => simp [intOf]; omega
    ·have hkn : ln = k := by omega
     subst hkn;have htk : L.take ln = L := List.take_of_length_le (by rw [HLEN.out]; exact Nat.le_refl _);rw [htk] at hown HM;have HK := Lib.hid (LAt.of_own HM.out.symm hown);have HBF := Lib.hid (HB3.out.trans (hbel.mono HB3.out.size));have hki : ¬ (ln : Int) < (ln : Int) := by omega
     clear hown htk hbel HM;go_wp2;go_ret2;exact ⟨L, oo, oc, m, HL.out, rfl, HK.out, HBF.out⟩
end
section
open Go.RowKit Go.Lib Wd Cv
theorem rgs_ok {X Y s : Int} (hX : 0 <= X) (hY : 0 <= Y) {ls : List (List (Int × Int))} (h : RingsOK X Y s ls) (h0 : 0 < ls.length) :
  Po.RgsOK ls /\ ∀ l ∈ ls, ∀ p ∈ l, (X <= p.1 /\ p.1 <= X + 7 * s) /\ Y <= p.2 /\ p.2 <= Y + 7 * s := by
 have hb : ∀ l ∈ ls, ∀ p ∈ l, (X <= p.1 /\ p.1 <= X + 7 * s) /\ Y <= p.2 /\ p.2 <= Y + 7 * s := fun l hl p hp => by have := (h.2 l hl).2.2 p hp; omega
 refine ⟨⟨⟨h0, h.1⟩, fun l hl => ?_⟩, hb⟩;have h1 := h.2 l hl;refine ⟨⟨h1.1, by have := h1.2.1; omega⟩, fun p hp => ?_⟩;have := h1.2.2 p hp;unfold Po.Wd1;omega
theorem rgs_tot {ls : List (List (Int × Int))} (h : Po.RgsOK ls) : Po.totTo ls ls.length <= 24 := by
 obtain ⟨⟨h1, h2⟩, h3⟩ := h;unfold Po.totTo;rw [List.take_length]
 match ls, h1, h2, h3 with
 | [a], _, _, h3 => have := (h3 a (by simp)).1.2; simp; omega
 | [a, b], _, _, h3 => have := (h3 a (by simp)).1.2; have := (h3 b (by simp)).1.2; simp; omega
 | [], h, _, _ => simp at h
 | _ :: _ :: _ :: _, _, h, _ => simp at h
theorem rgs_at {w : World} {base n c : Nat} {ao : Option Addr} {vs : List Value} {ls : List (List (Int × Int))} (h : w.ownsRow base 27 1 (.slice ao n c) n vs) (hO : Po.OwnRings w base vs ls) (hn : n = ls.length) (hk : Po.RgsOK ls) : RgAt w w.heap.size ao n ls :=
 ⟨Po.rings_of_own h hO hn, hn.symm, by have := hk.1.2; omega, Nat.le_trans (rgs_tot hk) (by decide)⟩
theorem rgs_good {R : Nat} (hR : R <= 12) {X Y s : Int} {ls : List (List (Int × Int))} (hk : Po.RgsOK ls) (hb : ∀ l ∈ ls, ∀ p ∈ l, (X <= p.1 /\ p.1 <= X + 7 * s) /\ Y <= p.2 /\ p.2 <= Y + 7 * s) (hs : sizeN (12 - R) = s) (h0 : 0 <= s) {w : World} {ao : Option Addr} {n c : Nat} (h : RgAt w w.heap.size ao n ls) {W : World} (hW : Below w.heap.size w W) :
  Calls Tryz.prog 8 #[.slice ao n c, .int .i64 R] W (GoodF W R ls id) := by
 obtain ⟨w1, w2⟩ := wide_ok hk hb (d := 28 * sizeN (12 - R)) (by omega) (by omega);exact fill_t hR hk w1 w2 hW.size (h.below hW (Nat.le_refl _))
theorem isFil_eq {R : Nat} {ls : List (List (Int × Int))} {L M : List Int} (h : IsFil R ls L) (h2 : IsFil R ls M) : M = L := h2.1.ext h.1 fun x => by rw [h.2.1, h2.2.1]
end
section
open Go.RowKit Go.Lib Wd
theorem rkw_in {k : Nat} {z : E2} (hz : okB k z = true) (hk : k + 1 <= 12) (w : World) : Calls Tryz.prog 55 #[.int .u64 (wordN k z : Nat)] w fun e w' => ∃ ao c, e = .returned (.slice ao 7 c) /\ w'.ownsRow w.heap.size 35 1 (.slice ao 7 c) 7 (uV (dsN 1 k z)) /\ Below w.heap.size w w' := by
 obtain ⟨i0, hi, hz0, hz1, hz2⟩ := info_parts info_u;obtain ⟨b1, b2, b3⟩ := word_cell hz;have lW := (wordN_lt hz).1;have HRC : Hid (∀ w, Calls Tryz.prog 14 #[.int .u64 (wordN k z : Nat)] w fun e w' => e = .returned (.tuple #[.agg #[.int .i64 k, .int .i64 z.1, .int .i64 z.2], .int .i64 0]) /\ Below w.heap.size w w') := fun w => by
  have h := rcell_any (wordN k z) (by omega) w;unfold cvR cvZ cvE at h;rw [if_pos b1, if_pos b1, if_pos b1, b2, b3] at h;exact h
 have hkk := rkids_any (k : Int) z;rw [(kd_ok hz hk).1, (kd_ok hz hk).2] at hkk;obtain ⟨K, hK⟩ : ∃ K, dsN 1 k z = K := ⟨_, rfl⟩;have hKl : K.length = 7 := by rw [<- hK]; exact ds_len _ _ _
 have HWD : Hid (∀ i, i < 7 -> ∀ w, Calls Tryz.prog 88 #[vC (cg (kidsL k z) i).1 (cg (kidsL k z) i).2] w fun e w' => e = .returned (.tuple #[.int .u64 (K.getD i 0), .int .i64 0]) /\ Below w.heap.size w w') := fun i hi w => by
  rw [kidsL_get _ _ hi];have h := word_any (((k + 1 : Nat)) : Int) (downE z i) w;have ho := kid_ok hz hk hi;rw [(ofW_ok (r := k + 1) ho).1, (ofW_ok (r := k + 1) ho).2.1] at h;rw [<- hK, <- kids_ds hk, kidsW_get hk hi];exact h
 have HTK : Hid (∀ i, i < 7 -> K.take (i + 1) = K.take i ++ [K.getD i 0]) := fun i hi => take_w K (by omega)
 have HTE : Hid (K.take 7 = K) := List.take_of_length_le (by omega);have HCL : Hid ((kidsL k z).length = 7) := rfl;have HK := Lib.hid hkk;simp only [vC] at HWD HK;generalize hcl : kidsL (((k : Nat)) : Int) z = C at *;generalize wordN k z = W at *;rw [hK];clear hkk hK hKl hcl b1 b2 b3 lW
 go_enter Tryz.func55, Tryz.ntmps55
 go_wp2_with fail
 refine (HRC.out _).mono ?_;rintro e w0 ⟨rfl, hb0⟩;have B0 : Hid (Below w.heap.size w (w0.alloc (.cells #[.int .i64 k, .int .i64 z.1, .int .i64 z.2] 39))) := hb0.alloc hb0.size _;have T0 : Hid (Tri (w0.alloc (.cells #[.int .i64 k, .int .i64 z.1, .int .i64 z.2] 39)) w0.heap.size k z) := heap_new _ _ _ rfl;clear hb0
 go_upto_region 2 with (fail)
 generalize w0.alloc (.cells #[.int .i64 k, .int .i64 z.1, .int .i64 z.2] 39) = wc at *;obtain ⟨t0, t1, t2, t3, t4, t5, t6⟩ := T0.out.cells
 go_wp2_with fail
 refine (HK.out _).mono ?_;rintro e w1 ⟨co, cc, rfl, hca, hb1⟩;rw [HCL.out];have HCA := Lib.hid hca;have HB1 := Lib.hid (B0.out.trans (hb1.mono B0.out.size));clear hca hb1 HK B0 T0 t0 t1 t2 t3 t4 t5 t6;go_wp2
 go_loopw [7, 8] (fun sl i wr => ∃ (j : Nat) (lo : Option Addr) (lc : Nat), j <= 7 /\ i = .int .i64 j /\ sl = .slice lo j lc /\ Hid (wr.ownsRow w1.heap.size 35 1 (.slice lo j lc) j (uV (K.take j)) /\ Below w1.heap.size w1 wr)) (fun _ i _ => 7 - (intOf i).toNat)
 case atStart => exact ⟨0, none, 0, by omega, rfl, rfl, World.ownsRow_nil _ _ _ _, Below.refl _ _⟩
 case round =>
  obtain ⟨j, lo, lc, hj, rfl, rfl, HI⟩ := hrel;by_cases hlt : j < 7
  ·obtain ⟨g, off, rfl, hg, hc⟩ := (HCA.out.below HI.out.2) (by rw [HCL.out]; omega)
   obtain ⟨c0, c1, c2⟩ := hc j (by rw [HCL.out]; exact hlt);have hwd := HWD.out j hlt;have htk := HTK.out j hlt;generalize cg C j = y at *;generalize K.getD j 0 = x at *;have HWK := Lib.hid hwd;have HTK2 := Lib.hid htk;clear hc hwd htk
   go_wp2_with fail
   refine (HWK.out _).mono ?_;rintro e w2 ⟨rfl, hb2⟩;have hs1 := HI.out.2.size;have HB2 := Lib.hid (HI.out.2.trans (hb2.mono hs1));have hown := own_later HI.out.1 hb2;have HBA := Lib.hid (HB2.out.alloc HB2.out.size (.cells #[.int .u64 x] 35));have hbs : w1.heap.size <= (w2.alloc (.cells #[.int .u64 x] 35)).heap.size := HBA.out.size;clear hb2 HI c0 c1 c2 HWK
   go_wp2_with (at_builtin; refine wpList_append_own_at _ rfl (.tmp 39) (.tmp 41) 22 rfl w1.heap.size 35 i0 (.int .u64 0) 1 8 Tryz.underlying22 hi hz0 hz1 hz2 rfl (by decide) _ j (uV (K.take j)) rfl (hown.alloc _) ⟨w2.heap.size, 0, none⟩ 1 1 [.int .u64 x] rfl rfl (cells_new _ _ _ _ rfl) (by simp [Value.oneCell']) (by unfold maxLen; omega) (by omega) hbs ?_; intro v3 w3 hown1 hgrow _ _)
   obtain ⟨lo', lc', rfl, -⟩ := own_form hown1;have HO3 : Hid (w3.ownsRow w1.heap.size 35 1 (.slice lo' (j + 1) lc') (j + 1) (uV (K.take (j + 1)))) := by rw [HTK2.out, uV_snoc]; exact hown1
   have HB3 := Lib.hid (below_append HBA.out (hown.alloc (.cells #[.int .u64 x] 35)) hbs hgrow);clear hown hown1 hgrow hbs HBA HB2
   go_roundw
   case rel => exact ⟨j + 1, lo', lc', by omega, by go_num, rfl, HO3.out, HB3.out⟩
   case measure => simp [intOf]; omega
  ·obtain rfl : j = 7 := by omega
   have ho := HI.out.1;rw [HTE.out] at ho;have hbb := HB1.out.trans (HI.out.2.mono HB1.out.size);have HF : Hid (∃ ao c, Ending.returned (.slice lo 7 lc) = .returned (.slice ao 7 c) /\ wr.ownsRow w.heap.size 35 1 (.slice ao 7 c) 7 (uV K) /\ Below w.heap.size w wr) := ⟨lo, lc, rfl, own_base ho HB1.out.size, hbb⟩;clear ho hbb HI HB1;go_wp2;go_ret;exact HF.out
def kidV (v : Int) : List Int := dsN 1 (rW v.toNat) (zW v.toNat)
theorem kidV_word {k : Nat} {z : E2} (hz : okB k z = true) : kidV (wordN k z : Int) = dsN 1 k z := by
 obtain ⟨a, b, c⟩ := word_cell hz;unfold kidV;rw [Int.toNat_natCast, b, c]
theorem flatMap_on {α β : Type} {f g : α -> List β} : ∀ {l : List α}, (∀ a ∈ l, f a = g a) -> l.flatMap f = l.flatMap g
 | [], _ => rfl
 | a :: l, h => by rw [List.flatMap_cons, List.flatMap_cons, h a (by simp), flatMap_on fun b hb => h b (by simp [hb])]
theorem ds_succ : ∀ (d k : Nat) {z : E2}, k + d + 1 <= 12 -> okB k z = true -> dsN (d + 1) k z = (dsN d k z).flatMap kidV
 | 0, k, z, _, hz => by
  show dsN 1 k z = [(wordN k z : Int)].flatMap kidV;rw [List.flatMap_cons, List.flatMap_nil, List.append_nil, kidV_word hz]
 | d + 1, k, z, hk, hz => by
  show (List.range 7).flatMap (fun i => dsN (d + 1) (k + 1) (downE z i)) = ((List.range 7).flatMap fun i => dsN d (k + 1) (downE z i)).flatMap kidV;rw [List.flatMap_assoc];refine flatMap_on fun i hi => ?_
  exact ds_succ d (k + 1) (by omega) (kid_ok hz (by omega) (List.mem_range.1 hi))
theorem flat_snoc (f : Int -> List Int) (l : List Int) {k : Nat} (hk : k < l.length) : (l.take (k + 1)).flatMap f = (l.take k).flatMap f ++ f (l.getD k 0) := by
 rw [take_w l hk, List.flatMap_append, List.flatMap_cons, List.flatMap_nil, List.append_nil]
theorem dsV_word {R k : Nat} {z : E2} (hz : okB k z = true) : dsV R (wordN k z : Int) = dsN (R - k) k z := by
 obtain ⟨a, b, c⟩ := word_cell hz;unfold dsV;rw [Int.toNat_natCast, b, c]
theorem word_of {v : Int} (h0 : 0 <= v) (h : isW v.toNat = true) : ∃ z, okB (rW v.toNat) z = true /\ v = (wordN (rW v.toNat) z : Int) := by
 obtain ⟨a, b⟩ := cell_word h;exact ⟨zW v.toNat, a, by omega⟩
theorem rspread_any (ao : Option Addr) (c : Nat) (l : List Int) (r : Int) (w : World) (B : Nat) (h : WordsAt w B ao l) (hB : B <= w.heap.size) (hn : l.length <= 1000000) (h64 : In64 l) :
  Calls Tryz.prog 26 #[.slice ao l.length c, .int .i64 r] w (ToldP w (sprL l r) (sprE l r)) := by
 obtain ⟨i0, hi, hz0, hz1, hz2⟩ := info_parts info_u;have HNIL : Hid (∀ err w', Below w.heap.size w w' -> sprE l r = err -> err ≠ 0 -> ToldP w (sprL l r) (sprE l r) (.returned (.tuple #[.slice none 0 0, .int .i64 err])) w') := fun err w' hb he h0 => by
  have : sprL l r = [] := by unfold sprL; rw [if_neg (by rw [he]; exact h0)]
  rw [this, he];exact ⟨none, 0, rfl, World.ownsRow_nil _ _ _ _, hb⟩
 have hsz := rsize_any ao c l r w B h hB hn h64;obtain ⟨n, hnn⟩ : ∃ n, l.length = n := ⟨_, rfl⟩;have HN := Lib.hid hnn;have HW := Lib.hid h;rw [hnn] at hn hsz ⊢;by_cases hE : szE l r = 0
 ·obtain ⟨R, rfl, hR, ha, hrs, hN⟩ := szE_zero hE
  rw [hE, hN] at hsz;by_cases hbig : 20000 < sumS R l
  ·have HF := Lib.hid (HNIL.out 7 · · (by unfold sprE; rw [if_pos hE, Int.toNat_natCast, if_pos hbig]) (by decide))
   generalize sumS R l = S at *;have q1 : decide (20000 < (S : Int)) = true := decide_eq_true (by omega);have q1n : decide (20000 < S) = true := decide_eq_true hbig;have HS := Lib.hid hsz;clear hE ha hrs hN hbig hsz h hnn h64
   go_enter Tryz.func26, Tryz.ntmps26
   go_wp2_with fail
   refine HS.out.mono ?_;rintro e w1 ⟨rfl, hb1⟩;have HFF := Lib.hid (HF.out w1 hb1);clear hb1;go_wp2;go_ret2;exact HFF.out
  ·have hsE : sprE l R = 0 := by unfold sprE; rw [if_pos hE, Int.toNat_natCast, if_neg hbig]
   have hsL : sprL l R = setF (l.flatMap (dsV R)) := by unfold sprL; rw [if_pos hsE, Int.toNat_natCast]
   rw [hsE, hsL];have HV : Hid (∀ i, i < n -> ∃ q z, l.getD i 0 = (wordN q z : Int) /\ okB q z = true /\ q <= R /\ (wordN q z : Int) / 72057594037927936 = ((wordN q z / 72057594037927936 : Nat) : Int) /\ bits .and .u64 ((wordN q z : Int) / 72057594037927936) 15 = (q : Int) /\ dsV R (wordN q z : Int) = dsN (R - q) q z /\ 7 ^ (R - q) <= sumS R l) := fun i hi => by
    have hm : l.getD i 0 ∈ l := getD_mem (j := i) (by omega);have h1 := List.all_eq_true.1 ha _ hm;have h2 := h64 _ hm;obtain ⟨z, hz, hv⟩ := word_of h2.1 h1;have h3 := hrs _ hm;obtain ⟨a1, a2, a3⟩ := word_cell hz;have hl := (wordN_lt hz).1;have h5 := sumS_snoc R l (k := i) (by omega);have h6 := sumS_le R (l := l) (i + 1);generalize rW (l.getD i 0).toNat = q at *;obtain ⟨v1, -, -⟩ := head_val (wordN q z) (by omega);rw [a2] at v1;exact ⟨q, z, hv, hz, h3, by omega, v1, dsV_word hz, by omega⟩
   have HFS : Hid (∀ i, i < n -> (l.take (i + 1)).flatMap (dsV R) = (l.take i).flatMap (dsV R) ++ dsV R (l.getD i 0)) := fun i hi => flat_snoc _ _ (by omega)
   have HEND : Hid (l.take n = l) := List.take_of_length_le (by omega);have HLN : Hid (∀ i, i < n -> sumS R (l.take (i + 1)) = sumS R (l.take i) + 7 ^ (R - rW (l.getD i 0).toNat)) := fun i hi => sumS_snoc R l (by omega)
   have HLE : Hid (∀ i, sumS R (l.take i) <= 20000) := fun i => Nat.le_trans (sumS_le R i) (by omega)
   have hS2 : sumS R l <= 20000 := by omega
   have q1 : decide (20000 < ((sumS R l : Nat) : Int)) = false := decide_eq_false (by omega);have q1n : decide (20000 < sumS R l) = false := decide_eq_false (by omega);have HSZ := Lib.hid hsz;generalize sumS R l = S at *;clear hE ha hrs hN hsz h hnn h64 hbig hsE hsL HNIL
   go_enter Tryz.func26, Tryz.ntmps26
   go_wp2_with fail
   refine HSZ.out.mono ?_;rintro e w1 ⟨rfl, hb1⟩;have HB1 := Lib.hid hb1;clear hb1;go_wp2
   go_loopw [8, 9] (fun sv i wr => ∃ (k m : Nat) (oo : Option Addr) (oc : Nat), k <= n /\ m <= 20000 /\ i = .int .i64 k /\ sv = .slice oo m oc /\ Hid (m = sumS R (l.take k)) /\ Hid (wr.ownsRow w.heap.size 35 1 (.slice oo m oc) m (uV ((l.take k).flatMap (dsV R)))) /\ Hid (Below w.heap.size w wr)) (fun _ i _ => n - (intOf i).toNat)
   case atStart => exact ⟨0, 0, none, 0, by omega, by omega, rfl, rfl, rfl, World.ownsRow_nil _ _ _ _, HB1.out⟩
   case round =>
    obtain ⟨k, m, oo, oc, hk, hm, rfl, rfl, HM, HO, HI⟩ := hrel;have hsz := HI.out.size;by_cases hlt : k < n
    ·obtain ⟨g, off, rfl, hg, hc⟩ := (HW.out.below HI.out hB) (by rw [HN.out]; omega)
     have c0 := hc k (by rw [HN.out]; exact hlt);obtain ⟨q, z, hv, hz, hq, hw1, hw2, hds, h7⟩ := HV.out k hlt;rw [hv] at c0;have hfs := HFS.out k hlt;rw [hv, hds] at hfs;have hln := HLN.out k hlt;rw [hv, Int.toNat_natCast, (word_cell hz).2.1] at hln;have hle := HLE.out (k + 1);have HFS2 := Lib.hid hfs;have HLN2 := Lib.hid hln;have q3 : decide ((k : Int) < (n : Int)) = true := decide_eq_true (by omega);obtain ⟨W, hW⟩ : ∃ W, wordN q z = W := ⟨_, rfl⟩;have HWE := Lib.hid hW;rw [hW] at c0 hw2;have hq12 : q <= 12 := by omega
     have hgw : g < wr.heap.size := by omega
     have HZ := Lib.hid hz;have H7 := Lib.hid h7;have HLE2 := Lib.hid hle;clear hc hv hw1 hds hfs hln hW hz h7 hle
     go_upto_region 11 with (fail)
     have hba : Below wr.heap.size wr (wr.alloc (.cells #[.int .u64 W] 35)) := (Below.refl _ _).alloc (Nat.le_refl _) _;have HOa := Lib.hid (own_later HO.out hba);have HIa := Lib.hid (HI.out.trans (hba.mono hsz));have NA : Hid (WordsAt (wr.alloc (.cells #[.int .u64 W] 35)) (wr.alloc (.cells #[.int .u64 W] 35)).heap.size (some ⟨wr.heap.size, 0, none⟩) (dsN 0 q z)) := by
      have h := words_new wr [(W : Int)] 35;rw [<- HWE.out] at h ⊢;exact h.wider (by simp)
     have c0a : (wr.alloc (.cells #[.int .u64 W] 35)).cell? ⟨g, off + k, none⟩ = some (.int .u64 W) := (hba.cell (p := ⟨g, off + k, none⟩) hgw).trans c0;have hga : g < (wr.alloc (.cells #[.int .u64 W] 35)).heap.size := Nat.lt_of_lt_of_le hgw hba.size;generalize hwa : wr.alloc (.cells #[.int .u64 W] 35) = wa at *;clear c0 hba HO HI hwa;have hsa := HIa.out.size;go_wp2
     go_loopw [10, 11] (fun nv kv wx => ∃ (e m2 : Nat) (no : Option Addr) (nc : Nat), q <= e /\ e <= R /\ kv = .int .i64 e /\ nv = .slice no m2 nc /\ m2 <= 20000 /\ Hid (m2 = 7 ^ (e - q)) /\ Hid (WordsAt wx wx.heap.size no (dsN (e - q) q z)) /\ Hid (Below wa.heap.size wa wx)) (fun _ i _ => R - (intOf i).toNat)
     case atStart => exact ⟨q, 1, some ⟨wr.heap.size, 0, none⟩, 1, Nat.le_refl _, hq, rfl, rfl, by omega, by show _ = _; rw [Nat.sub_self], by rw [Nat.sub_self]; exact NA.out, Below.refl _ _⟩
     case round =>
      obtain ⟨e, m2, no, nc, he1, he2, rfl, rfl, hm2, HM2, HNW, HX⟩ := hrel;obtain ⟨wx, rfl⟩ : ∃ wx, wx = wr := ⟨_, rfl⟩;have hsx := HX.out.size;have hDl : (dsN (e - q) q z).length = m2 := by rw [ds_len, HM2.out]
      have hm0 : 0 < m2 := by rw [HM2.out]; exact Nat.pow_pos (by decide)
      by_cases hlt2 : e < R
      ·have q4 : decide ((e : Int) < (R : Int)) = true := decide_eq_true (by omega)
       have hk7 : 7 * m2 <= 20000 := by
        have h1 : 7 ^ (e - q) * 7 <= 7 ^ (R - q) := by rw [<- Nat.pow_succ]; exact Nat.pow_le_pow_right (by decide) (by omega)
        have h2 := HM2.out;have h3 := H7.out;omega
       have hD' : dsN (e + 1 - q) q z = (dsN (e - q) q z).flatMap kidV := by
        rw [show e + 1 - q = (e - q) + 1 by omega];exact ds_succ _ _ (by omega) HZ.out
       have HKJ : Hid (∀ j, j < m2 -> ∃ y, (dsN (e - q) q z).getD j 0 = (wordN e y : Int) /\ okB e y = true /\ kidV ((dsN (e - q) q z).getD j 0) = dsN 1 e y) := fun j hj => by
        obtain ⟨y, hy, -, hv⟩ := (ds_mem (e - q) q z (by omega) HZ.out _).1 (getD_mem (l := dsN (e - q) q z) (j := j) (by omega));rw [show q + (e - q) = e by omega] at hy hv;exact ⟨y, hv, hy, by rw [hv]; exact kidV_word hy⟩
       obtain ⟨D, hD⟩ : ∃ D, dsN (e - q) q z = D := ⟨_, rfl⟩;rw [hD] at HKJ hD' HNW hDl;have HFJ : Hid (∀ j, j < m2 -> (D.take (j + 1)).flatMap kidV = (D.take j).flatMap kidV ++ kidV (D.getD j 0)) := fun j hj => flat_snoc _ _ (by omega)
       have HTJ : Hid (D.take m2 = D) := List.take_of_length_le (by omega);have HDL := Lib.hid hDl;have HD' := Lib.hid hD';have hM3 : m2 * 7 = 7 ^ (e + 1 - q) := by rw [show e + 1 - q = (e - q) + 1 by omega, Nat.pow_succ, HM2.out]
       have HM3 := Lib.hid hM3;clear hD hDl hD' hM3 HM2;go_wp2
       go_loopw [12, 13] (fun xv jv wy => ∃ (j t : Nat) (xo : Option Addr) (xc : Nat), j <= m2 /\ t <= 20000 /\ jv = .int .i64 j /\ xv = .slice xo t xc /\ Hid (t = j * 7) /\ Hid (wy.ownsRow wx.heap.size 35 1 (.slice xo t xc) t (uV ((D.take j).flatMap kidV))) /\ Hid (Below wx.heap.size wx wy)) (fun _ i _ => m2 - (intOf i).toNat)
       case atStart => exact ⟨0, 0, none, 0, by omega, by omega, rfl, rfl, rfl, World.ownsRow_nil _ _ _ _, Below.refl _ _⟩
       case round =>
        obtain ⟨j, t, xo, xc, hj, ht, rfl, rfl, HT, HXO, HY⟩ := hrel;obtain ⟨wy, rfl⟩ : ∃ wy, wy = wr := ⟨_, rfl⟩;have hsy := HY.out.size;by_cases hlt3 : j < m2
        ·obtain ⟨g2, off2, rfl, hg2, hc2⟩ := (HNW.out.below HY.out (Nat.le_refl _)) (by rw [HDL.out]; omega)
         have c2 := hc2 j (by rw [HDL.out]; exact hlt3);obtain ⟨y, hy1, hy2, hy3⟩ := HKJ.out j hlt3;have hfj := HFJ.out j hlt3;rw [hy3] at hfj;rw [hy1] at c2;have HKC := Lib.hid (rkw_in hy2 (by omega) wy);have HFJ2 := Lib.hid hfj;have q5 : decide ((j : Int) < (m2 : Int)) = true := decide_eq_true (by omega);have hgy : g2 < wy.heap.size := Nat.lt_of_lt_of_le hg2 hsy;have ht7 : t + 7 <= 20000 := by have := HT.out; omega
         clear hc2 hy1 hy2 hy3 hfj;obtain ⟨C, hC⟩ : ∃ C, dsN 1 e y = C := ⟨_, rfl⟩;have hCl : C.length = 7 := by rw [<- hC]; exact ds_len _ _ _
         rw [hC] at HKC HFJ2;have HCL := Lib.hid hCl;generalize wordN e y = V at *;clear hC hCl
         go_wp2_with fail
         refine HKC.out.mono ?_;rintro e4 w4 ⟨ko, kc, rfl, hko, hb4⟩;obtain ⟨ko', kc', hform, -, hkg⟩ := own_form hko;cases hform;obtain ⟨g4, rfl, -, hg4, hn4⟩ := hkg (by omega);have hB4 := HY.out.trans (hb4.mono hsy);have hown := own_later HXO.out hb4;have hbs := hB4.size;have hnw : ∀ j u, (uV C)[j]? = some u -> w4.cell? ((⟨g4, 0, none⟩ : Addr).add j) = some u := fun j u hu => by rw [Addr.add_lit, Nat.zero_add]; exact hn4 j u hu
         have HB4 := Lib.hid hB4;clear hb4 hko hkg hn4 hB4 HKC HXO HY c2
         go_wp2_with (at_builtin; refine wpList_append_own_at _ rfl (.tmp 54) (.tmp 59) 22 rfl wx.heap.size 35 i0 (.int .u64 0) 1 8 Tryz.underlying22 hi hz0 hz1 hz2 rfl (by decide) _ t (uV ((D.take j).flatMap kidV)) rfl hown ⟨g4, 0, none⟩ 7 kc (uV C) rfl (by rw [uV_len, HCL.out]) hnw (uV_cell C) (by unfold maxLen; omega) (by omega) hbs ?_; intro v5 w5 hown5 hgrow5 _ _)
         obtain ⟨xo5, xc5, rfl, -⟩ := own_form hown5;have HX5 : Hid (w5.ownsRow wx.heap.size 35 1 (.slice xo5 (t + 7) xc5) (t + 7) (uV ((D.take (j + 1)).flatMap kidV))) := by rw [HFJ2.out, show uV ((D.take j).flatMap kidV ++ C) = uV ((D.take j).flatMap kidV) ++ uV C by simp [uV]]; exact hown5
         have HY5 := Lib.hid (below_append HB4.out hown hbs hgrow5);clear hown5 hgrow5 hown hbs HB4 hnw
         go_roundw
         case rel => exact ⟨j + 1, t + 7, xo5, xc5, by omega, ht7, by go_num, rfl, by show _ = _; rw [HT.out]; omega, HX5.out, HY5.out⟩
         case measure => simp [intOf]; omega
        ·obtain rfl : j = m2 := by omega
         have q5 : decide ((j : Int) < (j : Int)) = false := decide_eq_false (by omega);have ho := HXO.out;rw [HTJ.out, <- HD'.out] at ho;have HWO := Lib.hid (words_own (by rw [ds_len, HT.out, HM3.out]) ho);have HX6 := Lib.hid (HX.out.trans (HY.out.mono hsx));have HT6 : Hid (t = 7 ^ (e + 1 - q)) := by show _ = _; rw [HT.out, HM3.out]
         clear ho HXO HY HX HT;go_wp2
         go_roundw
         case rel => exact ⟨e + 1, t, xo, xc, by omega, by omega, by go_num, rfl, ht, HT6.out, HWO.out, HX6.out⟩
         case measure => simp [intOf]; omega
      ·obtain rfl : e = R := by omega
       have q4 : decide ((e : Int) < (e : Int)) = false := decide_eq_false (by omega);obtain ⟨g2, off2, rfl, hg2, -⟩ := HNW.out (by omega);have hown := own_later HOa.out HX.out;have HI2 := Lib.hid (HIa.out.trans (HX.out.mono hsa));have hbs := HI2.out.size;have hnw := words_news HNW.out ⟨g2, off2, none⟩ rfl;obtain ⟨D, hD⟩ : ∃ D, dsN (e - q) q z = D := ⟨_, rfl⟩;rw [hD] at hnw hDl;have HDL := Lib.hid hDl;have HFS3 := HFS2.out;rw [hD] at HFS3;have HFS4 := Lib.hid HFS3;have hmm : m + m2 = sumS e (l.take (k + 1)) := by rw [HLN2.out, HM2.out, HM.out]
       have HMM := Lib.hid hmm;have hm20 : m + m2 <= 20000 := by have := HLE2.out; omega
       clear hD hDl HFS3 hmm HFS2 HLN2 HM2 HM HNW HX HOa HIa HZ
       go_wp2_with (at_builtin; refine wpList_append_own_at _ rfl (.tmp 62) (.tmp 63) 22 rfl w.heap.size 35 i0 (.int .u64 0) 1 8 Tryz.underlying22 hi hz0 hz1 hz2 rfl (by decide) _ m (uV ((l.take k).flatMap (dsV e))) rfl hown ⟨g2, off2, none⟩ m2 nc (uV D) rfl (by rw [uV_len, HDL.out, Nat.mul_one]) hnw (uV_cell D) (by unfold maxLen; omega) (by omega) hbs ?_; intro v5 w5 hown5 hgrow5 _ _)
       obtain ⟨xo5, xc5, rfl, -⟩ := own_form hown5;have HX5 : Hid (w5.ownsRow w.heap.size 35 1 (.slice xo5 (m + m2) xc5) (m + m2) (uV ((l.take (k + 1)).flatMap (dsV e)))) := by rw [HFS4.out, show uV ((l.take k).flatMap (dsV e) ++ D) = uV ((l.take k).flatMap (dsV e)) ++ uV D by simp [uV]]; exact hown5
       have HY5 := Lib.hid (below_append HI2.out hown hbs hgrow5);clear hown5 hgrow5 hown hbs HI2 hnw
       go_roundw
       case rel => exact ⟨k + 1, m + m2, xo5, xc5, by omega, hm20, by go_num, rfl, HMM.out, HX5.out, HY5.out⟩
       case measure => simp [intOf]; omega
    ·obtain rfl : k = n := by omega
     have q5 : decide ((k : Int) < (k : Int)) = false := decide_eq_false (by omega);have ho := HO.out;rw [HEND.out] at ho;obtain ⟨T, hT⟩ : ∃ T, l.flatMap (dsV R) = T := ⟨_, rfl⟩;rw [hT] at ho;have HTT := Lib.hid hT;have hTl : T.length = m := by have := ho.1; rw [uV_len] at this; omega
     have hset := rset_own oo oc T wr (words_own hTl.symm ho) (by omega);rw [hTl] at hset;have HSET := Lib.hid hset;have HB2 := Lib.hid HI.out;clear ho hT hTl hset HO HI HM
     go_wp2_with fail
     refine HSET.out.mono ?_;rintro e4 w4 ⟨so, sc, rfl, hw4, hb4⟩;have HF : Hid (ToldP w (setF T) 0 (.returned (.tuple #[.slice so (setF T).length sc, .int .i64 0])) w4) := ⟨so, sc, rfl, own_base hw4 HB2.out.size, HB2.out.trans (hb4.mono HB2.out.size)⟩;clear hw4 hb4;go_wp2;go_ret2;rw [HTT.out];exact HF.out
 ·have HF := Lib.hid (HNIL.out (szE l r) · · (by unfold sprE; rw [if_neg hE]) hE)
  generalize szE l r = E at *;generalize szN l r = S at *;have q1 : (E != 0) = true := by simp [hE]
  have HS := Lib.hid hsz;clear hE hsz h hnn h64
  go_enter Tryz.func26, Tryz.ntmps26
  go_wp2_with fail
  refine HS.out.mono ?_;rintro e w1 ⟨rfl, hb1⟩;have HFF := Lib.hid (HF.out w1 hb1);clear hb1;go_wp2;go_ret2;exact HFF.out
end
end Go.Proofs.YtpkoapmpknbgoaaGreat
namespace Go.Proofs.YtpkoapmpknbgoaaGreat.Wd
section
def stepsN (z : E2) : Int := max (max (z.1.natAbs : Int) (z.2.natAbs : Int)) ((z.1 + z.2).natAbs : Int)
theorem steps_hex (z : E2) (k : Int) : Hex k z ↔ stepsN z <= k := by unfold Hex stepsN; omega
theorem hex_ring (z : E2) (k : Nat) : (Hex k z /\ ¬ Hex ((k : Int) - 1) z) ↔ stepsN z = k := by
 rw [steps_hex, steps_hex]; omega
def dsE (a b : Nat) : Int := if isW a = true then (if isW b = true then (if rW a = rW b then 0 else 8) else 5) else 5
def dsN (a b : Nat) : Int := if dsE a b = 0 then stepsN (subE (zW a) (zW b)) else 0
end
end Go.Proofs.YtpkoapmpknbgoaaGreat.Wd
namespace Go.Proofs.YtpkoapmpknbgoaaGreat
section
open Go.RowKit Go.Lib Wd
theorem cv_sm (a : Nat) : Sm 1073741824 (cvZ a) := by
 unfold cvZ;by_cases h : isW a = true
 ·rw [if_pos h]
  have h1 := (okB_iff _ _).1 (cell_word h).1;have h2 := (shapeB_iff _ _).1 h1.1;exact ⟨h2.2.2.1, h2.2.2.2.1, h2.2.2.2.2.1, h2.2.2.2.2.2⟩
 ·rw [if_neg h]; unfold Sm; simp
@[go_sem high] theorem run_max_three {P : Program} (w : World) (ts : Array TypeId) (t : TypeId) (k k' k'' : IntKind) (x y z : Int) :
  (Builtin.max_ ts t #[.int k x, .int k' y, .int k'' z]).run P w = .ok (.int k (max (max x y) z)) w := by
 have e : ∀ x y : Int, (if y > x then y else x) = max x y := fun x y => by
  rw [Int.max_def]
  split <;> split <;> omega
 simp [Builtin.max_, Builtin.max2, e]
theorem unit_ne (s : Nat) : ¬ ((unitE s).1 = 0 /\ (unitE s).2 = 0) := by
 unfold unitE; split <;> simp
theorem line_nodup (c u : E2) (k : Nat) (hu : ¬ (u.1 = 0 /\ u.2 = 0)) : (lineP c u k).Nodup := by
 unfold lineP;refine List.pairwise_map.2 ((List.nodup_range (n := k)).imp fun {a b} hab h => hab ?_);unfold ptP at h;simp only [Prod.mk.injEq] at h;obtain ⟨h1, h2⟩ := h;have e1 : (a : Int) * u.1 = b * u.1 := by omega
 have e2 : (a : Int) * u.2 = b * u.2 := by omega
 have : u.1 ≠ 0 ∨ u.2 ≠ 0 := by omega
 rcases this with h | h
 ·have := Int.eq_of_mul_eq_mul_right h e1; omega
 ·have := Int.eq_of_mul_eq_mul_right h e2; omega
theorem ring_nodup (z : E2) (k : Nat) : (ringL z k).Nodup := by
 obtain ⟨c0, c1, c2, c3, c4, c5⟩ := corn_at z k;unfold ringL
 split
 ·simp
 ·simp only [sidesP, List.nil_append, List.nodup_append, List.mem_append]
  refine ⟨⟨⟨⟨⟨line_nodup _ _ _ (unit_ne _), line_nodup _ _ _ (unit_ne _), ?_⟩, line_nodup _ _ _ (unit_ne _), ?_⟩, line_nodup _ _ _ (unit_ne _), ?_⟩, line_nodup _ _ _ (unit_ne _), ?_⟩, line_nodup _ _ _ (unit_ne _), ?_⟩
  all_goals
   rintro ⟨a, b⟩ ha ⟨p, q⟩ hb he;simp only [Prod.mk.injEq] at he;obtain ⟨rfl, rfl⟩ := he;simp only [lineP_mem, c0, c1, c2, c3, c4, c5, unitE, Prod.mk.injEq] at ha hb;obtain ⟨j, h1, h2, h3⟩ := hb
  ·obtain ⟨i, g1, g2, g3⟩ := ha; omega
  ·rcases ha with ⟨i, g1, g2, g3⟩ | ⟨i, g1, g2, g3⟩ <;> omega
  ·rcases ha with (⟨i, g1, g2, g3⟩ | ⟨i, g1, g2, g3⟩) | ⟨i, g1, g2, g3⟩ <;> omega
  ·rcases ha with ((⟨i, g1, g2, g3⟩ | ⟨i, g1, g2, g3⟩) | ⟨i, g1, g2, g3⟩) | ⟨i, g1, g2, g3⟩ <;> omega
  ·rcases ha with (((⟨i, g1, g2, g3⟩ | ⟨i, g1, g2, g3⟩) | ⟨i, g1, g2, g3⟩) | ⟨i, g1, g2, g3⟩) | ⟨i, g1, g2, g3⟩ <;> omega
theorem ring_steps (z y : E2) (k : Nat) : y ∈ ringL z k ↔ stepsN (subE y z) = k := by rw [ring_mem, hex_ring]
theorem all_steps (z y : E2) (f n : Nat) : y ∈ allR z f n ↔ (f : Int) <= stepsN (subE y z) /\ stepsN (subE y z) < f + n := by
 induction n with
 | zero => unfold allR; simp only [List.not_mem_nil, false_iff]; omega
 | succ n ih =>
  show y ∈ allR z f n ++ ringL z (f + n) ↔ _;rw [List.mem_append, ih, ring_steps];omega
theorem all_nodup (z : E2) (f n : Nat) : (allR z f n).Nodup := by
 induction n with
 | zero => exact List.nodup_nil
 | succ n ih =>
  show (allR z f n ++ ringL z (f + n)).Nodup;rw [List.nodup_append];refine ⟨ih, ring_nodup _ _, fun a ha b hb e => ?_⟩;subst e;rw [all_steps] at ha;rw [ring_steps] at hb;omega
theorem tell_nodup {r : Nat} {L : List E2} (h : L.Nodup) : (tellL r L).Nodup := by
 unfold tellL;rw [List.nodup_iff_pairwise_ne, List.pairwise_map];refine (List.Pairwise.imp_of_mem (l := L.filter fun z => okB r z) (R := (· ≠ ·)) ?_ (h.filter _));intro a b ha hb hab e;have oa := (List.mem_filter.1 ha).2;have ob := (List.mem_filter.1 hb).2;have e2 : wordN r a = wordN r b := by rw [Int.toNat_natCast] at e; omega
 exact hab (word_inj oa ob e2).2
theorem srt_up {l : List Int} (h : l.Nodup) : Up (srt l) := by
 have hp : (srt l).Perm l := List.mergeSort_perm l _;have hn : (srt l).Nodup := hp.nodup_iff.2 h;have hs := srt_sorted l;rw [List.nodup_iff_pairwise_ne] at hn;exact (hs.and hn).imp fun ⟨h1, h2⟩ => by omega
theorem tell_mem {r : Nat} {L : List E2} {v : Int} : v ∈ tellL r L ↔ ∃ y, y ∈ L /\ okB r y = true /\ v = (wordN r y : Int) := by
 unfold tellL;rw [List.mem_map];constructor
 ·rintro ⟨y, hy, rfl⟩
  obtain ⟨h1, h2⟩ := List.mem_filter.1 hy;exact ⟨y, h1, h2, by rw [Int.toNat_natCast]⟩
 ·rintro ⟨y, h1, h2, rfl⟩
  exact ⟨y, List.mem_filter.2 ⟨h1, h2⟩, by rw [Int.toNat_natCast]⟩
def eV (l : List E2) : List Value := l.flatMap fun c => [.int .i64 c.1, .int .i64 c.2]
def eg (l : List E2) (k : Nat) : E2 := l.getD k (0, 0)
theorem eV_append (a b : List E2) : eV (a ++ b) = eV a ++ eV b := by simp [eV]
theorem eV_one (c : E2) : eV [c] = [.int .i64 c.1, .int .i64 c.2] := rfl
theorem eV_get : ∀ (l : List E2) (k : Nat), k < l.length -> (eV l)[k * 2]? = some (.int .i64 (eg l k).1) /\ (eV l)[k * 2 + 1]? = some (.int .i64 (eg l k).2)
 | [], k, h => by simp at h
 | p :: l, 0, _ => by simp [eV, eg]
 | p :: l, k + 1, h => by
  have ih := eV_get l k (by simpa using h);have e : eV (p :: l) = [.int .i64 p.1, .int .i64 p.2] ++ eV l := rfl;have g : eg (p :: l) (k + 1) = eg l k := rfl;rw [e, g, List.getElem?_append_right (by simp; omega), List.getElem?_append_right (by simp; omega)];simp only [List.length_cons, List.length_nil];rw [show (k + 1) * 2 - (0 + 1 + 1) = k * 2 by omega, show (k + 1) * 2 + 1 - (0 + 1 + 1) = k * 2 + 1 by omega];exact ih
def EAt (w : World) (ao : Option Addr) (l : List E2) : Prop :=
 0 < l.length -> ∃ b off, ao = some ⟨b, off, none⟩ /\ b < w.heap.size /\ ∀ k, k < l.length ->
  w.cell? ⟨b, off + k * 2, none⟩ = some (.int .i64 (eg l k).1) /\ w.cell? ⟨b, off + k * 2 + 1, none⟩ = some (.int .i64 (eg l k).2)
theorem EAt.below {w w' : World} {ao : Option Addr} {l : List E2} (h : EAt w ao l) (hb : Below w.heap.size w w') : EAt w' ao l := fun h0 => by
 obtain ⟨b, off, e, hlt, hc⟩ := h h0;refine ⟨b, off, e, Nat.lt_of_lt_of_le hlt hb.size, fun k hk => ?_⟩;rw [hb.cell (p := ⟨b, _, none⟩) hlt, hb.cell (p := ⟨b, _, none⟩) hlt];exact hc k hk
theorem eAt_own {w : World} {base n c : Nat} {ao : Option Addr} {l : List E2} (hn : n = l.length) (h : w.ownsRow base 37 2 (.slice ao n c) n (eV l)) : EAt w ao l := fun h0 => by
 subst hn;obtain ⟨ao', c', e, _, hh⟩ := own_form h;cases e;obtain ⟨g, rfl, _, hlt, hc⟩ := hh h0;exact ⟨g, 0, rfl, hlt, fun i hi => by
  have := eV_get l i hi;rw [Nat.zero_add];exact ⟨hc _ _ this.1, hc _ _ this.2⟩⟩
theorem info_e : (Tryz.prog.info? 37).map (fun i => (i.zero, i.size, i.bytes)) = some (some (.agg #[.int .i64 0, .int .i64 0]), 2, 16) := by kernel_rfl
theorem take_e (V : List E2) {k : Nat} (h : k < V.length) : V.take (k + 1) = V.take k ++ [eg V k] := by
 unfold eg;rw [List.take_add_one, List.getElem?_eq_getElem h, List.getD_eq_getElem?_getD, List.getElem?_eq_getElem h]
 rfl
def besL (r : Int) (z : E2) (L : List E2) : List Int := setF (tellL r (L.map (addE z)))
theorem bes_eq {w0 : Nat} {f n : Nat} {L : List E2} (hw : isW w0 = true) (hL : ∀ e, e ∈ L ↔ (f : Int) <= stepsN e /\ stepsN e < f + n) : besL (cvR w0) (cvZ w0) L = srt (tellL (rW w0) (allR (zW w0) f n)) := by
 have hr : cvR w0 = (rW w0 : Int) := by unfold cvR; rw [if_pos hw]
 have hz : cvZ w0 = zW w0 := by unfold cvZ; rw [if_pos hw]
 rw [hr, hz];refine (setF_up _).ext (srt_up (tell_nodup (all_nodup _ _ _))) fun v => ?_
 rw [setF_mem, srt_mem, tell_mem, tell_mem];constructor
 ·rintro ⟨y, h1, h2, h3⟩
  obtain ⟨e, he, rfl⟩ := List.mem_map.1 h1;refine ⟨_, ?_, h2, h3⟩;rw [all_steps, show subE (addE (zW w0) e) (zW w0) = e by unfold subE addE; refine Prod.ext ?_ ?_ <;> (simp only; omega)];exact (hL e).1 he
 ·rintro ⟨y, h1, h2, h3⟩
  rw [all_steps] at h1;refine ⟨y, List.mem_map.2 ⟨subE y (zW w0), (hL _).2 h1, ?_⟩, h2, h3⟩;unfold subE addE;refine Prod.ext ?_ ?_ <;> (simp only; omega)
def unitL : List E2 := (List.range 6).map unitE
theorem unitL_mem (e : E2) : e ∈ unitL ↔ ((1 : Nat) : Int) <= stepsN e /\ stepsN e < ((1 : Nat) : Int) + (1 : Nat) := by
 obtain ⟨a, b⟩ := e;unfold unitL stepsN;simp only [List.mem_map, List.mem_range];constructor
 ·rintro ⟨k, hk, h⟩
  rcases (show k = 0 ∨ k = 1 ∨ k = 2 ∨ k = 3 ∨ k = 4 ∨ k = 5 by omega) with rfl | rfl | rfl | rfl | rfl | rfl <;> simp only [unitE, Prod.mk.injEq] at h <;> obtain ⟨rfl, rfl⟩ := h <;> decide
 ·intro h
  rcases (show (a = 1 /\ b = 0) ∨ (a = 0 /\ b = 1) ∨ (a = -1 /\ b = 1) ∨ (a = -1 /\ b = 0) ∨ (a = 0 /\ b = -1) ∨ (a = 1 /\ b = -1) by omega) with ⟨rfl, rfl⟩ | ⟨rfl, rfl⟩ | ⟨rfl, rfl⟩ | ⟨rfl, rfl⟩ | ⟨rfl, rfl⟩ | ⟨rfl, rfl⟩
  ·exact ⟨0, by decide, rfl⟩
  ·exact ⟨1, by decide, rfl⟩
  ·exact ⟨2, by decide, rfl⟩
  ·exact ⟨3, by decide, rfl⟩
  ·exact ⟨4, by decide, rfl⟩
  ·exact ⟨5, by decide, rfl⟩
theorem unitL_take {k : Nat} (h : k < 6) : unitL.take (k + 1) = unitL.take k ++ [unitE k] := by
 rw [List.take_add_one];congr 1;unfold unitL;rw [List.getElem?_map, List.getElem?_range h]
 rfl
theorem sm_steps {e : E2} {h : Int} (hs : stepsN e <= h) : Sm h e := ((steps_hex _ _).2 hs).sm
theorem isW_cv {w0 : Nat} : (isW w0 = true /\ cvE w0 = 0) ∨ (isW w0 = false /\ cvE w0 = 5) := by
 unfold cvE;by_cases h : isW w0 = true
 ·exact .inl ⟨h, by rw [if_pos h]⟩
 ·exact .inr ⟨Bool.eq_false_iff.2 h, by rw [if_neg h]⟩
end
end Go.Proofs.YtpkoapmpknbgoaaGreat
