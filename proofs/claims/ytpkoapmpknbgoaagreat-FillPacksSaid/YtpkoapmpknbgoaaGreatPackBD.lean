/- Joined: FiC, DfC, WdM, WdP, Lex4, Lex5, Lex6, WdA, WdB, WdC, WdD: contracts and plain laws, each with its own heading below. -/
import Derived.Test.YtpkoapmpknbgoaaGreatPackBC
import Derived.Test.YtpkoapmpknbgoaaGreatProg
import Derived.Lib.Mul64
import Derived.Shelf.Bits.Mul64
import Derived.Laws.Bits64b
import Derived.Laws.Externs
import Derived.Deep.RegionWith
import Derived.Deep.CutRange
import Derived.Deep.CutBlock
import Derived.BigRegion
import Derived.Shelf.Spec.BitsCarry
set_option maxRecDepth 100000
set_option maxHeartbeats 8000000
namespace Go.Proofs.YtpkoapmpknbgoaaGreat
section
open Go.RowKit Go.Lib
theorem filindex_any (cb : Array Value) (p : Int -> Bool) (ao : Option Addr) (n c : Nat) (l : List Int) (w : World) (blk : Nat) (hn : l.length = n) (hbig : n <= 1000000)
  (hw : WordsAt w w.heap.size ao l) (ha : AskU 31 cb p w blk l) :
  Calls Tryz.prog 58 #[.slice ao n c, .func (.func 31) #[] cb] w fun e w' => e = .returned (.int .i64 (idxN p l)) /\ Below w.heap.size w w' := by
 have HW := Lib.hid hw;have HA := Lib.hid ha;have HN := Lib.hid hn;have HY : Hid (∀ k, k < l.length -> (∀ j, j < k -> p (l.getD j 0) = false) -> p (l.getD k 0) = true -> idxN p l = k) := fun k hk h1 h2 => by
  unfold idxN; rw [first_at hk h1 h2, if_pos hk]
 have HZ : Hid ((∀ j, j < l.length -> p (l.getD j 0) = false) -> idxN p l = -1) := fun h => by
  unfold idxN; rw [(first_none h).1, if_neg (Nat.lt_irrefl _)]
 generalize idxN p l = res at *;clear hw ha hn
 go_enter Tryz.func58, Tryz.ntmps58
 go_upto_region 2 with (fail)
 go_loopg [5, 8] n (fun q _ s8 wr => ∃ k : Nat, k <= n /\ n - k <= q /\ s8 = .int .i64 k /\ Hid (Below w.heap.size w wr /\ ∀ j, j < k -> p (l.getD j 0) = false))
 case atStart => exact ⟨0, by omega, by omega, by go_num, Below.refl _ _, fun j hj => by omega⟩
 case round =>
  obtain ⟨k, hk, hq, rfl, HR⟩ := hrel;by_cases hlt : k < n
  ·obtain ⟨b, off, rfl, hb, hc⟩ := (HW.out.below HR.out.1 (Nat.le_refl _)) (by have := HN.out; omega)
   have c0 := hc k (by have := HN.out; omega);have hki : (k : Int) < (n : Int) := by omega
   have hcall := HA.out wr (l.getD k 0) (Turn.of_below HR.out.1) (by rw [List.getD_eq_getElem?_getD, List.getElem?_eq_getElem (by have := HN.out; omega)]; exact List.getElem_mem _);obtain ⟨x, hx⟩ : ∃ x, l.getD k 0 = x := ⟨_, rfl⟩;have HX := Lib.hid hx;rw [hx] at c0 hcall;clear hc hx hb;cases hp : p x with
   | true =>
    rw [hp] at hcall
    go_wp2_with (go_at_call 31; refine hcall.mono ?_; rintro e w2 ⟨rfl, hb2⟩)
    go_ret;exact ⟨by rw [HY.out k (by have := HN.out; omega) HR.out.2 (by rw [HX.out]; exact hp)]; rfl, HR.out.1.trans (hb2.mono HR.out.1.size)⟩
   | false =>
    rw [hp] at hcall
    go_wp2_with (go_at_call 31; refine hcall.mono ?_; rintro e w2 ⟨rfl, hb2⟩)
    go_roundg (n - (k + 1))
    case measure => omega
    case rel =>
     refine ⟨k + 1, by omega, Nat.le_refl _, by go_num, HR.out.1.trans (hb2.mono HR.out.1.size), fun j hj => ?_⟩;by_cases e : j = k
     ·subst e; rw [HX.out]; exact hp
     ·exact HR.out.2 j (by omega)
  ·obtain rfl : k = n := by omega
   have hki : ¬ (k : Int) < (k : Int) := by omega
   go_wp2;go_ret;exact ⟨by rw [HZ.out fun j hj => HR.out.2 j (by have := HN.out; omega)]; rfl, HR.out.1⟩
theorem fildelete_any (cb : Array Value) (p : Int -> Bool) (ao : Option Addr) (n c : Nat) (l : List Int) (w : World) (B blk : Nat) (hn : l.length = n) (hbig : n <= 1000000)
  (_hB : B <= w.heap.size) (ho : w.ownsRow B 35 1 (.slice ao n c) n (uV l)) (ha : AskU 31 cb p w blk l) (hblk : ∀ g o s, ao = some ⟨g, o, s⟩ -> g = blk) :
  Calls Tryz.prog 30 #[.slice ao n c, .func (.func 31) #[] cb] w fun e w' => e = .returned (.slice ao (l.filter fun x => !p x).length c) /\ w'.ownsRow B 35 1 (.slice ao (l.filter fun x => !p x).length c) (l.filter fun x => !p x).length (uV (l.filter fun x => !p x)) /\ Turn (fun k => ao = some ⟨k, 0, none⟩) w w' := by
 have v23 : ∀ w, (zeroValue 35).run Tryz.prog w = .ok (.int .u64 0) w := fun _ => by kernel_rfl
 have HIF := Lib.hid (filindex_any cb p ao n c l w blk hn hbig (words_own hn.symm ho) ha);have HO := Lib.hid ho;have HA := Lib.hid ha;have HN := Lib.hid hn;have HBK := Lib.hid hblk;by_cases hall : ∀ j, j < l.length -> p (l.getD j 0) = false
 ·have h1 := first_none hall
  have e1 : idxN p l = -1 := by unfold idxN; rw [h1.1, if_neg (Nat.lt_irrefl _)]
  rw [h1.2];rw [e1] at HIF;rw [hn];clear ho ha hn hblk hall h1 e1
  go_enter Tryz.func30, Tryz.ntmps30
  go_wp2_with fail
  refine HIF.out.mono ?_;rintro e w1 ⟨rfl, hb1⟩;go_wp2;go_ret;exact ⟨rfl, own_later HO.out hb1, Turn.of_below hb1⟩
 ·obtain ⟨k0, hk0, hno, hyes⟩ : ∃ k, k < l.length /\ (∀ j, j < k -> p (l.getD j 0) = false) /\ p (l.getD k 0) = true := by
   by_cases h : firstF p l < l.length
   ·refine ⟨firstF p l, h, fun j hj => ?_, ?_⟩
    ·have := List.not_of_lt_findIdx (p := p) (xs := l) hj
     rw [List.getD_eq_getElem?_getD, List.getElem?_eq_getElem (Nat.lt_trans hj h)];simpa using this
    ·rw [List.getD_eq_getElem?_getD, List.getElem?_eq_getElem h]
     exact List.findIdx_getElem (w := h)
   ·exact absurd (fun j hj => by
     have h2 := List.not_of_lt_findIdx (p := p) (xs := l) (i := j) (by unfold firstF at h; omega);rw [List.getD_eq_getElem?_getD, List.getElem?_eq_getElem hj];simpa using h2) hall
  have e1 : idxN p l = k0 := by unfold idxN; rw [first_at hk0 hno hyes, if_pos hk0]
  rw [e1] at HIF;obtain ⟨g, rfl⟩ : ∃ g, ao = some ⟨g, 0, none⟩ := by
   obtain ⟨_, _, e, _, _⟩ := own_form ho;rcases ho.2 with ⟨hv, h0⟩ | ⟨g, cap, cur, hv, _⟩
   ·omega
   ·cases hv; exact ⟨g, rfl⟩
  obtain rfl : g = blk := hblk g 0 none rfl;have HS := Lib.hid (df_start hk0 hno hyes);have hk0n : k0 < n := by omega
  obtain ⟨F, hF⟩ : ∃ F, (l.filter fun x => !p x) = F := ⟨_, rfl⟩;have HF := Lib.hid hF;obtain ⟨m, hm⟩ : ∃ m, F.length = m := ⟨_, rfl⟩;have HM := Lib.hid hm;rw [hF, hm];have hgw := (own_cells ho hn).1;clear ho ha hn hblk hall e1 hno hyes hk0 hF hm
  go_enter Tryz.func30, Tryz.ntmps30
  go_wp2_with fail
  refine HIF.out.mono ?_;rintro e w1 ⟨rfl, hb1⟩;have HB1 := Lib.hid hb1;have hgw1 : g < w1.heap.size := Nat.lt_of_lt_of_le hgw hb1.size;clear hb1;have hne1 : ((k0 : Int) == -1) = false := beq_eq_false_iff_ne.2 (by omega)
  go_upto_region 5 with (fail)
  go_loopg [5, 6, 7] n (fun q s5 s6 _ wr => ∃ (i j : Nat) (dk : List Int), j <= n /\ i < j /\ n - j <= q /\ s5 = .int .i64 i /\ s6 = .int .i64 j /\ Hid (DfI p l j i dk /\ wr.ownsRow B 35 1 (.slice (some ⟨g, 0, none⟩) n c) n (uV dk) /\ Turn (fun k => k = g) w wr))
  case atStart => exact ⟨k0, k0 + 1, l, by omega, by omega, by omega, rfl, by go_num, HS.out, own_later HO.out HB1.out, Turn.of_below HB1.out⟩
  case round =>
   obtain ⟨i, j, dk, hj, hij, hq, rfl, rfl, HR⟩ := hrel;have hdl : dk.length = n := by rw [HR.out.1.1]; exact HN.out
   obtain ⟨hgr, hcells⟩ := own_cells HR.out.2.1 hdl;by_cases hlt : j < n
   ·obtain ⟨c0, _⟩ := hcells j hlt
    obtain ⟨c1, f1⟩ := hcells i (by omega);have e0 : dk.getD j 0 = l.getD j 0 := by rw [List.getD_eq_getElem?_getD, HR.out.1.2.2.2 j (Nat.le_refl _), <- List.getD_eq_getElem?_getD]
    rw [e0] at c0;have hcall := HA.out wr (l.getD j 0) HR.out.2.2 (by rw [List.getD_eq_getElem?_getD, List.getElem?_eq_getElem (by have := HN.out; omega)]; exact List.getElem_mem _);have hki : (j : Int) < (n : Int) := by omega
    obtain ⟨x, hx⟩ : ∃ x, l.getD j 0 = x := ⟨_, rfl⟩;have HX := Lib.hid hx;rw [hx] at c0 hcall;clear hcells e0 hx hdl;cases hp : p x with
    | true =>
     rw [hp] at hcall
     go_wp2_with (go_at_call 31; refine hcall.mono ?_; rintro e w2 ⟨rfl, hb2⟩)
     go_roundg (n - (j + 1))
     case measure => omega
     case rel => exact ⟨i, j + 1, dk, by omega, by omega, Nat.le_refl _, rfl, by go_num, df_skip HR.out.1 (by have := HN.out; omega) (by rw [HX.out]; exact hp), own_later HR.out.2.1 hb2, HR.out.2.2.trans (Turn.of_below (S := fun k => k = g) hb2) fun _ _ h => h⟩
    | false =>
     rw [hp] at hcall
     go_upto_region 8 with (fail)
     go_wp2_with (go_at_call 31; refine hcall.mono ?_; rintro e w2 ⟨rfl, hb2⟩; have c2 : w2.cell? ⟨g, i, none⟩ = some (.int .u64 (dk.getD i 0)) := (hb2.cell (p := ⟨g, i, none⟩) hgr).trans c1; have f2 : w2.frozen? ⟨g, i, none⟩ = false := (own_later HR.out.2.1 hb2).frozenAt i)
     go_roundg (n - (j + 1))
     case measure => omega
     case rel =>
      refine ⟨i + 1, j + 1, dk.set i x, by omega, by omega, Nat.le_refl _, by go_num, by go_num, ?_, ?_, ?_⟩
      ·have := df_keep HR.out.1 (by have := HN.out; omega) (by rw [HX.out]; exact hp)
       rwa [HX.out] at this
      ·rw [uV_set]; exact own_drew (own_set (own_later HR.out.2.1 hb2) i _)
      ·exact (Turn.setCell (S := fun k => k = g) (a := ⟨g, i, none⟩) (HR.out.2.2.trans (Turn.of_below (S := fun k => k = g) hb2) fun _ _ h => h) rfl _).drew
   ·obtain rfl : j = n := by omega
    have hki : ¬ (j : Int) < (j : Int) := by omega
    have hic : j <= c := by
     obtain ⟨cur, _, _, h, _⟩ := own_block HR.out.2.1;exact h
    have hcl : ∀ ty, (Builtin.clear_ #[22] ty #[.slice (some ⟨g, i, none⟩) (j - i) (c - i)]).run Tryz.prog wr = .ok (.tuple #[]) (wr.setCells g i (List.replicate (j - i) (.int .u64 0))) :=
     fun ty => Lib.run_clear_slice wr _ _ ty _ Tryz.underlying22 v23 rfl rfl g i _ _ (by omega) (fun t ht => by rw [(hcells (i + t) (by omega)).1]; rfl) (fun t ht => (hcells (i + t) (by omega)).2)
    have HFI : Hid (F = dk.take i /\ F.length = i) := by
     have e2 := HR.out.1.2.2.1;rw [List.take_of_length_le (by rw [HN.out]; exact Nat.le_refl _), HF.out] at e2;exact ⟨e2, by rw [e2, List.length_take, hdl]; omega⟩
    have HE : Hid ((wr.setCells g i (List.replicate (j - i) (.int .u64 0))).ownsRow B 35 1 (.slice (some ⟨g, 0, none⟩) i c) i (uV F) /\ Turn (fun k => k = g) w (wr.setCells g i (List.replicate (j - i) (.int .u64 0)))) := by
     obtain ⟨ys, h1, h2⟩ := own_setCells (List.replicate (j - i) (.int .u64 0)) i _ _ HR.out.2.1;refine ⟨?_, turn_setCells _ _ _ _ HR.out.2.2⟩;have h3 := own_take h1 (m := i) (by omega);rw [Nat.mul_one, h2, <- uV_take, <- HFI.out.1] at h3;exact h3
    have him : i = m := by rw [<- HM.out]; exact HFI.out.2.symm
    clear hcells hdl;subst him;go_wp2;go_ret;exact ⟨rfl, HE.out.1, HE.out.2.2.2.2.1 |> fun h5 => ⟨HE.out.2.1, HE.out.2.2.1, HE.out.2.2.2.1, h5, fun k hk hs => HE.out.2.2.2.2.2 k hk fun e => hs (by rw [e])⟩⟩
theorem cenindex_any (cb : Array Value) (p : Int -> Bool) (ao : Option Addr) (n c : Nat) (l : List Int) (w : World) (blk : Nat) (hn : l.length = n) (hbig : n <= 1000000)
  (hw : WordsAt w w.heap.size ao l) (ha : AskU 33 cb p w blk l) :
  Calls Tryz.prog 58 #[.slice ao n c, .func (.func 33) #[] cb] w fun e w' => e = .returned (.int .i64 (idxN p l)) /\ Below w.heap.size w w' := by
 have HW := Lib.hid hw;have HA := Lib.hid ha;have HN := Lib.hid hn;have HY : Hid (∀ k, k < l.length -> (∀ j, j < k -> p (l.getD j 0) = false) -> p (l.getD k 0) = true -> idxN p l = k) := fun k hk h1 h2 => by
  unfold idxN; rw [first_at hk h1 h2, if_pos hk]
 have HZ : Hid ((∀ j, j < l.length -> p (l.getD j 0) = false) -> idxN p l = -1) := fun h => by
  unfold idxN; rw [(first_none h).1, if_neg (Nat.lt_irrefl _)]
 generalize idxN p l = res at *;clear hw ha hn
 go_enter Tryz.func58, Tryz.ntmps58
 go_upto_region 2 with (fail)
 go_loopg [5, 8] n (fun q _ s8 wr => ∃ k : Nat, k <= n /\ n - k <= q /\ s8 = .int .i64 k /\ Hid (Below w.heap.size w wr /\ ∀ j, j < k -> p (l.getD j 0) = false))
 case atStart => exact ⟨0, by omega, by omega, by go_num, Below.refl _ _, fun j hj => by omega⟩
 case round =>
  obtain ⟨k, hk, hq, rfl, HR⟩ := hrel;by_cases hlt : k < n
  ·obtain ⟨b, off, rfl, hb, hc⟩ := (HW.out.below HR.out.1 (Nat.le_refl _)) (by have := HN.out; omega)
   have c0 := hc k (by have := HN.out; omega);have hki : (k : Int) < (n : Int) := by omega
   have hcall := HA.out wr (l.getD k 0) (Turn.of_below HR.out.1) (by rw [List.getD_eq_getElem?_getD, List.getElem?_eq_getElem (by have := HN.out; omega)]; exact List.getElem_mem _);obtain ⟨x, hx⟩ : ∃ x, l.getD k 0 = x := ⟨_, rfl⟩;have HX := Lib.hid hx;rw [hx] at c0 hcall;clear hc hx hb;cases hp : p x with
   | true =>
    rw [hp] at hcall
    go_wp2_with (go_at_call 33; refine hcall.mono ?_; rintro e w2 ⟨rfl, hb2⟩)
    go_ret;exact ⟨by rw [HY.out k (by have := HN.out; omega) HR.out.2 (by rw [HX.out]; exact hp)]; rfl, HR.out.1.trans (hb2.mono HR.out.1.size)⟩
   | false =>
    rw [hp] at hcall
    go_wp2_with (go_at_call 33; refine hcall.mono ?_; rintro e w2 ⟨rfl, hb2⟩)
    go_roundg (n - (k + 1))
    case measure => omega
    case rel =>
     refine ⟨k + 1, by omega, Nat.le_refl _, by go_num, HR.out.1.trans (hb2.mono HR.out.1.size), fun j hj => ?_⟩;by_cases e : j = k
     ·subst e; rw [HX.out]; exact hp
     ·exact HR.out.2 j (by omega)
  ·obtain rfl : k = n := by omega
   have hki : ¬ (k : Int) < (k : Int) := by omega
   go_wp2;go_ret;exact ⟨by rw [HZ.out fun j hj => HR.out.2 j (by have := HN.out; omega)]; rfl, HR.out.1⟩
theorem cendelete_any (cb : Array Value) (p : Int -> Bool) (ao : Option Addr) (n c : Nat) (l : List Int) (w : World) (B blk : Nat) (hn : l.length = n) (hbig : n <= 1000000)
  (_hB : B <= w.heap.size) (ho : w.ownsRow B 35 1 (.slice ao n c) n (uV l)) (ha : AskU 33 cb p w blk l) (hblk : ∀ g o s, ao = some ⟨g, o, s⟩ -> g = blk) :
  Calls Tryz.prog 30 #[.slice ao n c, .func (.func 33) #[] cb] w fun e w' => e = .returned (.slice ao (l.filter fun x => !p x).length c) /\ w'.ownsRow B 35 1 (.slice ao (l.filter fun x => !p x).length c) (l.filter fun x => !p x).length (uV (l.filter fun x => !p x)) /\ Turn (fun k => ao = some ⟨k, 0, none⟩) w w' := by
 have v23 : ∀ w, (zeroValue 35).run Tryz.prog w = .ok (.int .u64 0) w := fun _ => by kernel_rfl
 have HIF := Lib.hid (cenindex_any cb p ao n c l w blk hn hbig (words_own hn.symm ho) ha);have HO := Lib.hid ho;have HA := Lib.hid ha;have HN := Lib.hid hn;have HBK := Lib.hid hblk;by_cases hall : ∀ j, j < l.length -> p (l.getD j 0) = false
 ·have h1 := first_none hall
  have e1 : idxN p l = -1 := by unfold idxN; rw [h1.1, if_neg (Nat.lt_irrefl _)]
  rw [h1.2];rw [e1] at HIF;rw [hn];clear ho ha hn hblk hall h1 e1
  go_enter Tryz.func30, Tryz.ntmps30
  go_wp2_with fail
  refine HIF.out.mono ?_;rintro e w1 ⟨rfl, hb1⟩;go_wp2;go_ret;exact ⟨rfl, own_later HO.out hb1, Turn.of_below hb1⟩
 ·obtain ⟨k0, hk0, hno, hyes⟩ : ∃ k, k < l.length /\ (∀ j, j < k -> p (l.getD j 0) = false) /\ p (l.getD k 0) = true := by
   by_cases h : firstF p l < l.length
   ·refine ⟨firstF p l, h, fun j hj => ?_, ?_⟩
    ·have := List.not_of_lt_findIdx (p := p) (xs := l) hj
     rw [List.getD_eq_getElem?_getD, List.getElem?_eq_getElem (Nat.lt_trans hj h)];simpa using this
    ·rw [List.getD_eq_getElem?_getD, List.getElem?_eq_getElem h]
     exact List.findIdx_getElem (w := h)
   ·exact absurd (fun j hj => by
     have h2 := List.not_of_lt_findIdx (p := p) (xs := l) (i := j) (by unfold firstF at h; omega);rw [List.getD_eq_getElem?_getD, List.getElem?_eq_getElem hj];simpa using h2) hall
  have e1 : idxN p l = k0 := by unfold idxN; rw [first_at hk0 hno hyes, if_pos hk0]
  rw [e1] at HIF;obtain ⟨g, rfl⟩ : ∃ g, ao = some ⟨g, 0, none⟩ := by
   obtain ⟨_, _, e, _, _⟩ := own_form ho;rcases ho.2 with ⟨hv, h0⟩ | ⟨g, cap, cur, hv, _⟩
   ·omega
   ·cases hv; exact ⟨g, rfl⟩
  obtain rfl : g = blk := hblk g 0 none rfl;have HS := Lib.hid (df_start hk0 hno hyes);have hk0n : k0 < n := by omega
  obtain ⟨F, hF⟩ : ∃ F, (l.filter fun x => !p x) = F := ⟨_, rfl⟩;have HF := Lib.hid hF;obtain ⟨m, hm⟩ : ∃ m, F.length = m := ⟨_, rfl⟩;have HM := Lib.hid hm;rw [hF, hm];have hgw := (own_cells ho hn).1;clear ho ha hn hblk hall e1 hno hyes hk0 hF hm
  go_enter Tryz.func30, Tryz.ntmps30
  go_wp2_with fail
  refine HIF.out.mono ?_;rintro e w1 ⟨rfl, hb1⟩;have HB1 := Lib.hid hb1;have hgw1 : g < w1.heap.size := Nat.lt_of_lt_of_le hgw hb1.size;clear hb1;have hne1 : ((k0 : Int) == -1) = false := beq_eq_false_iff_ne.2 (by omega)
  go_upto_region 5 with (fail)
  go_loopg [5, 6, 7] n (fun q s5 s6 _ wr => ∃ (i j : Nat) (dk : List Int), j <= n /\ i < j /\ n - j <= q /\ s5 = .int .i64 i /\ s6 = .int .i64 j /\ Hid (DfI p l j i dk /\ wr.ownsRow B 35 1 (.slice (some ⟨g, 0, none⟩) n c) n (uV dk) /\ Turn (fun k => k = g) w wr))
  case atStart => exact ⟨k0, k0 + 1, l, by omega, by omega, by omega, rfl, by go_num, HS.out, own_later HO.out HB1.out, Turn.of_below HB1.out⟩
  case round =>
   obtain ⟨i, j, dk, hj, hij, hq, rfl, rfl, HR⟩ := hrel;have hdl : dk.length = n := by rw [HR.out.1.1]; exact HN.out
   obtain ⟨hgr, hcells⟩ := own_cells HR.out.2.1 hdl;by_cases hlt : j < n
   ·obtain ⟨c0, _⟩ := hcells j hlt
    obtain ⟨c1, f1⟩ := hcells i (by omega);have e0 : dk.getD j 0 = l.getD j 0 := by rw [List.getD_eq_getElem?_getD, HR.out.1.2.2.2 j (Nat.le_refl _), <- List.getD_eq_getElem?_getD]
    rw [e0] at c0;have hcall := HA.out wr (l.getD j 0) HR.out.2.2 (by rw [List.getD_eq_getElem?_getD, List.getElem?_eq_getElem (by have := HN.out; omega)]; exact List.getElem_mem _);have hki : (j : Int) < (n : Int) := by omega
    obtain ⟨x, hx⟩ : ∃ x, l.getD j 0 = x := ⟨_, rfl⟩;have HX := Lib.hid hx;rw [hx] at c0 hcall;clear hcells e0 hx hdl;cases hp : p x with
    | true =>
     rw [hp] at hcall
     go_wp2_with (go_at_call 33; refine hcall.mono ?_; rintro e w2 ⟨rfl, hb2⟩)
     go_roundg (n - (j + 1))
     case measure => omega
     case rel => exact ⟨i, j + 1, dk, by omega, by omega, Nat.le_refl _, rfl, by go_num, df_skip HR.out.1 (by have := HN.out; omega) (by rw [HX.out]; exact hp), own_later HR.out.2.1 hb2, HR.out.2.2.trans (Turn.of_below (S := fun k => k = g) hb2) fun _ _ h => h⟩
    | false =>
     rw [hp] at hcall
     go_upto_region 8 with (fail)
     go_wp2_with (go_at_call 33; refine hcall.mono ?_; rintro e w2 ⟨rfl, hb2⟩; have c2 : w2.cell? ⟨g, i, none⟩ = some (.int .u64 (dk.getD i 0)) := (hb2.cell (p := ⟨g, i, none⟩) hgr).trans c1; have f2 : w2.frozen? ⟨g, i, none⟩ = false := (own_later HR.out.2.1 hb2).frozenAt i)
     go_roundg (n - (j + 1))
     case measure => omega
     case rel =>
      refine ⟨i + 1, j + 1, dk.set i x, by omega, by omega, Nat.le_refl _, by go_num, by go_num, ?_, ?_, ?_⟩
      ·have := df_keep HR.out.1 (by have := HN.out; omega) (by rw [HX.out]; exact hp)
       rwa [HX.out] at this
      ·rw [uV_set]; exact own_drew (own_set (own_later HR.out.2.1 hb2) i _)
      ·exact (Turn.setCell (S := fun k => k = g) (a := ⟨g, i, none⟩) (HR.out.2.2.trans (Turn.of_below (S := fun k => k = g) hb2) fun _ _ h => h) rfl _).drew
   ·obtain rfl : j = n := by omega
    have hki : ¬ (j : Int) < (j : Int) := by omega
    have hic : j <= c := by
     obtain ⟨cur, _, _, h, _⟩ := own_block HR.out.2.1;exact h
    have hcl : ∀ ty, (Builtin.clear_ #[22] ty #[.slice (some ⟨g, i, none⟩) (j - i) (c - i)]).run Tryz.prog wr = .ok (.tuple #[]) (wr.setCells g i (List.replicate (j - i) (.int .u64 0))) :=
     fun ty => Lib.run_clear_slice wr _ _ ty _ Tryz.underlying22 v23 rfl rfl g i _ _ (by omega) (fun t ht => by rw [(hcells (i + t) (by omega)).1]; rfl) (fun t ht => (hcells (i + t) (by omega)).2)
    have HFI : Hid (F = dk.take i /\ F.length = i) := by
     have e2 := HR.out.1.2.2.1;rw [List.take_of_length_le (by rw [HN.out]; exact Nat.le_refl _), HF.out] at e2;exact ⟨e2, by rw [e2, List.length_take, hdl]; omega⟩
    have HE : Hid ((wr.setCells g i (List.replicate (j - i) (.int .u64 0))).ownsRow B 35 1 (.slice (some ⟨g, 0, none⟩) i c) i (uV F) /\ Turn (fun k => k = g) w (wr.setCells g i (List.replicate (j - i) (.int .u64 0)))) := by
     obtain ⟨ys, h1, h2⟩ := own_setCells (List.replicate (j - i) (.int .u64 0)) i _ _ HR.out.2.1;refine ⟨?_, turn_setCells _ _ _ _ HR.out.2.2⟩;have h3 := own_take h1 (m := i) (by omega);rw [Nat.mul_one, h2, <- uV_take, <- HFI.out.1] at h3;exact h3
    have him : i = m := by rw [<- HM.out]; exact HFI.out.2.symm
    clear hcells hdl;subst him;go_wp2;go_ret;exact ⟨rfl, HE.out.1, HE.out.2.2.2.2.1 |> fun h5 => ⟨HE.out.2.1, HE.out.2.2.1, HE.out.2.2.2.1, h5, fun k hk hs => HE.out.2.2.2.2.2 k hk fun e => hs (by rw [e])⟩⟩
end
section
open Go.RowKit
theorem add64_run (x y c : Nat) (hc : c <= 1) (w : World) :
  (callFunc 119 #[.int .u64 x, .int .u64 y, .int .u64 c]).run Tryz.prog w =
   .ok (.value (.tuple #[.int .u64 (((x + y + c) % 18446744073709551616 : Nat) : Int), .int .u64 (((x + y + c) / 18446744073709551616 : Nat) : Int)])) w := by
 rw [run_callFunc_extern Tryz.func119 (by kernel_rfl) (by kernel_rfl) (by kernel_rfl) (e := add64Entry) (by kernel_rfl), run_add64 x y c (by omega) (by omega) (by omega) (by omega)];simp only [Result.andThen];congr 5 <;> omega
def pL (al bl : Nat) : Nat := (al + bl) % 18446744073709551616
def pH (ah al bh bl : Nat) : Nat := (ah + bh + (al + bl) / 18446744073709551616) % 18446744073709551616
theorem plus_any (ah al bh bl : Nat) (h1 : al < 18446744073709551616) (h2 : bl < 18446744073709551616) (w : World) :
  Calls Tryz.prog 75 #[.agg #[.int .u64 ah, .int .u64 al], .agg #[.int .u64 bh, .int .u64 bl]] w fun e w' => e = .returned (.agg #[.int .u64 (pH ah al bh bl), .int .u64 (pL al bl)]) /\ Below w.heap.size w w' := by
 obtain ⟨c, hc⟩ : ∃ c, (al + bl + 0) / 18446744073709551616 = c := ⟨_, rfl⟩;obtain ⟨l, hl⟩ : ∃ c, (al + bl + 0) % 18446744073709551616 = c := ⟨_, rfl⟩;obtain ⟨h, hh⟩ : ∃ h, (ah + bh + c) % 18446744073709551616 = h := ⟨_, rfl⟩;obtain ⟨k, hk⟩ : ∃ h, (ah + bh + c) / 18446744073709551616 = h := ⟨_, rfl⟩;have A1 : ∀ w, (callFunc 119 #[.int .u64 al, .int .u64 bl, .int .u64 0]).run Tryz.prog w = .ok (.value (.tuple #[.int .u64 (l : Nat), .int .u64 (c : Nat)])) w := fun w => by
  have := add64_run al bl 0 (by omega) w;rw [hc, hl] at this;exact this
 have A2 : ∀ w, (callFunc 119 #[.int .u64 ah, .int .u64 bh, .int .u64 c]).run Tryz.prog w = .ok (.value (.tuple #[.int .u64 (h : Nat), .int .u64 (k : Nat)])) w := fun w => by
  have := add64_run ah bh c (by omega) w;rw [hh, hk] at this;exact this
 have HC : Hid (pH ah al bh bl = h) := by show _ = _; unfold pH; rw [<- hh, <- hc]; rfl
 have HL : Hid (pL al bl = l) := by show _ = _; unfold pL; rw [<- hl]; rfl
 clear hc hl hh hk h1 h2
 go_enter Tryz.func75, Tryz.ntmps75
 go_wp2;exact bodyPost_ret (v := .agg #[.int .u64 h, .int .u64 l]) (by simp [results, Tryz.results75, go_sem]) rfl ⟨by rw [HC.out, HL.out], (((Below.refl _ _).alloc (Nat.le_refl _) _).alloc (by simp) _).alloc (by simp; omega) _⟩
structure Rep (h l : Nat) (A : Int) : Prop where
 hh : h < 18446744073709551616
 hl : l < 18446744073709551616
 val : ((h : Int) * 18446744073709551616 + (l : Int) - A) % 340282366920938463463374607431768211456 = 0
theorem Rep.plus {ah al bh bl : Nat} {A B : Int} (h1 : Rep ah al A) (h2 : Rep bh bl B) : Rep (pH ah al bh bl) (pL al bl) (A + B) := by
 obtain ⟨a1, a2, a3⟩ := h1;obtain ⟨b1, b2, b3⟩ := h2;unfold pH pL;exact ⟨by omega, by omega, by omega⟩
theorem plus_rep {ah al bh bl : Nat} {A B : Int} (h1 : Rep ah al A) (h2 : Rep bh bl B) (w : World) :
  Calls Tryz.prog 75 #[.agg #[.int .u64 ah, .int .u64 al], .agg #[.int .u64 bh, .int .u64 bl]] w fun e w' => ∃ h l : Nat, e = .returned (.agg #[.int .u64 h, .int .u64 l]) /\ Rep h l (A + B) /\ Below w.heap.size w w' :=
 (plus_any ah al bh bl h1.hl h2.hl w).mono fun _ _ ⟨he, hb⟩ => ⟨_, _, he, h1.plus h2, hb⟩
theorem not_u64 (x : Nat) (hx : x < 18446744073709551616) : bits .xor .u64 IntKind.u64.max (x : Int) = ((18446744073709551615 - x : Nat) : Int) := by
 unfold bits;simp only [];show IntKind.u64.wrap ((BitVec.ofInt 64 IntKind.u64.max ^^^ BitVec.ofInt 64 (x : Int)).toNat : Int) = _;have e1 : BitVec.ofInt 64 IntKind.u64.max = BitVec.allOnes 64 := by decide
 have e2 : BitVec.allOnes 64 ^^^ BitVec.ofInt 64 (x : Int) = ~~~ BitVec.ofInt 64 (x : Int) := by
  rw [BitVec.xor_comm, BitVec.xor_allOnes]
 rw [e1, e2, BitVec.toNat_not, BitVec.ofInt_natCast, BitVec.toNat_ofNat, Nat.mod_eq_of_lt (by simpa using hx), IntKind.wrap_u64];omega
theorem Rep.turned {h l : Nat} {A : Int} (h1 : Rep h l A) : Rep (pH (18446744073709551615 - h) (18446744073709551615 - l) 0 1) (pL (18446744073709551615 - l) 1) (-A) := by
 obtain ⟨a1, a2, a3⟩ := h1;unfold pH pL;exact ⟨by omega, by omega, by omega⟩
theorem turned_rep {h l : Nat} {A : Int} (hr : Rep h l A) (w : World) :
  Calls Tryz.prog 40 #[.agg #[.int .u64 h, .int .u64 l]] w fun e w' => ∃ h' l' : Nat, e = .returned (.agg #[.int .u64 h', .int .u64 l']) /\ Rep h' l' (-A) /\ Below w.heap.size w w' := by
 have HT := Lib.hid hr.turned;have P1 := plus_any (18446744073709551615 - h) (18446744073709551615 - l) 0 1 (by omega) (by omega);have e1 := not_u64 h hr.hh;have e2 := not_u64 l hr.hl;obtain ⟨ch, hch⟩ : ∃ c, 18446744073709551615 - h = c := ⟨_, rfl⟩;obtain ⟨cl, hcl⟩ : ∃ c, 18446744073709551615 - l = c := ⟨_, rfl⟩;rw [hch] at e1 P1 HT;rw [hcl] at e2 P1 HT;obtain ⟨h', hh'⟩ : ∃ c, pH ch cl 0 1 = c := ⟨_, rfl⟩;obtain ⟨l', hl'⟩ : ∃ c, pL cl 1 = c := ⟨_, rfl⟩;rw [hh', hl'] at P1 HT;have HP := Lib.hid P1;clear hch hcl hr P1 hh' hl'
 go_enter Tryz.func40, Tryz.ntmps40
 go_wp2_with fail
 refine (HP.out _).mono ?_;rintro e w1 ⟨rfl, hb1⟩;have hz : w.heap.size + 1 < w1.heap.size := by have := hb1.size; simp at this; omega
 have c0 : w1.frozen? ⟨w.heap.size + 1, 0, none⟩ = false := by rw [hb1.frozen (p := ⟨w.heap.size + 1, 0, none⟩) (by simp)]; exact frozen_of_row _ _ _ _ _ (heap_new _ _ _ (by simp))
 have c1 : w1.frozen? ⟨w.heap.size + 1, 1, none⟩ = false := by rw [hb1.frozen (p := ⟨w.heap.size + 1, 1, none⟩) (by simp)]; exact frozen_of_row _ _ _ _ _ (heap_new _ _ _ (by simp))
 have d0 : w1.cell? ⟨w.heap.size + 1, 0, none⟩ = some (.int .u64 0) := by rw [hb1.cell (p := ⟨w.heap.size + 1, 0, none⟩) (by simp), cell_of_row _ _ _ _ _ _ (heap_new _ _ _ (by simp))]; rfl
 have d1 : w1.cell? ⟨w.heap.size + 1, 1, none⟩ = some (.int .u64 0) := by rw [hb1.cell (p := ⟨w.heap.size + 1, 1, none⟩) (by simp), cell_of_row _ _ _ _ _ _ (heap_new _ _ _ (by simp))]; rfl
 have hb2 : Hid (Below w.heap.size w w1) := ((((Below.refl _ _).alloc (Nat.le_refl _) _).alloc (by simp) _).trans (hb1.mono (by simp; omega)));clear hb1;go_wp2;exact bodyPost_ret (v := .agg #[.int .u64 h', .int .u64 l']) (by simp [results, Tryz.results40, go_sem, *]) rfl ⟨_, _, rfl, HT.out, (hb2.out.setCell (p := ⟨w.heap.size + 1, 0, none⟩) (by simp) _).setCell (p := ⟨w.heap.size + 1, 1, none⟩) (by simp) _⟩
theorem mul64_any (x y : Nat) (hx : x < 18446744073709551616) (hy : y < 18446744073709551616) (w : World) :
  Calls Tryz.prog 39 #[.int .u64 x, .int .u64 y] w fun e w' => e = .returned (.tuple #[.int .u64 ((x * y / 18446744073709551616 : Nat) : Int), .int .u64 ((x * y % 18446744073709551616 : Nat) : Int)]) /\ w = w' := by
 obtain ⟨bd, bt, bw, hhi⟩ := Lib.mul64_hi x y hx hy;have ba := Lib.half_mul_le (a := x / 4294967296) (b := y / 4294967296) (by omega) (by omega);have bb := Lib.half_mul_le (a := x / 4294967296) (b := y % 4294967296) (by omega) (by omega);have bc := Lib.half_mul_le (a := x % 4294967296) (b := y / 4294967296) (by omega) (by omega);have ba' : x / 4294967296 * (y / 4294967296) < 18446744073709551616 := by omega
 have bb' : x / 4294967296 * (y % 4294967296) < 18446744073709551616 := by omega
 have bc' : x % 4294967296 * (y / 4294967296) < 18446744073709551616 := by omega
 have bh1 : x / 4294967296 * (y / 4294967296) + (x / 4294967296 * (y % 4294967296) + x % 4294967296 * (y % 4294967296) / 4294967296) / 4294967296 < 18446744073709551616 := by omega
 have bh : x / 4294967296 * (y / 4294967296) + (x / 4294967296 * (y % 4294967296) + x % 4294967296 * (y % 4294967296) / 4294967296) / 4294967296 + ((x / 4294967296 * (y % 4294967296) + x % 4294967296 * (y % 4294967296) / 4294967296) % 4294967296 + x % 4294967296 * (y / 4294967296)) / 4294967296 < 18446744073709551616 := by omega
 go_enter Tryz.func39, Tryz.ntmps39
 go_wp2;simp only [Mul64.maskN x hx, Mul64.maskN y hy, Mul64.divN, Mul64.mulN, Mul64.addN, Mul64.wrapN _ bd, Mul64.wrapN _ bb', Mul64.wrapN _ bt, Mul64.maskN _ bt, Mul64.wrapN _ bc', Mul64.wrapN _ bw, Mul64.wrapN _ ba', Mul64.wrapN _ bh1, Mul64.wrapN _ bh, Mul64.wrapM (x * y)];rw [hhi];go_ret2;exact ⟨rfl, rfl⟩
theorem rep_prod {x y : Nat} {A : Int} (_hx : x <= 9223372036854775808) (_hy : y <= 9223372036854775808) (hA : ((x * y : Nat) : Int) = A) (hb : x * y < 340282366920938463463374607431768211456) : Rep (x * y / 18446744073709551616) (x * y % 18446744073709551616) A := by
 subst hA;generalize x * y = n at *;exact ⟨by omega, by omega, by omega⟩
theorem times_rep (a b : Int) (ha : -9223372036854775808 <= a /\ a <= 9223372036854775807) (hb : -9223372036854775808 <= b /\ b <= 9223372036854775807) (w : World) :
  Calls Tryz.prog 16 #[.int .i64 a, .int .i64 b] w fun e w' => ∃ h l : Nat, e = .returned (.agg #[.int .u64 h, .int .u64 l]) /\ Rep h l (a * b) /\ Below w.heap.size w w' := by
 obtain ⟨x, hx⟩ : ∃ x, a.natAbs = x := ⟨_, rfl⟩;obtain ⟨y, hy⟩ : ∃ x, b.natAbs = x := ⟨_, rfl⟩;have hx1 : x <= 9223372036854775808 := by omega
 have hy1 : y <= 9223372036854775808 := by omega
 have hxy : x * y < 340282366920938463463374607431768211456 := Nat.lt_of_le_of_lt (Nat.mul_le_mul hx1 hy1) (by decide);have HM : Hid (∀ w : World, _) := fun w => mul64_any x y (by omega) (by omega) w
 have ea : IntKind.u64.wrap a = if a < 0 then ((18446744073709551616 - x : Nat) : Int) else (x : Int) := by rw [IntKind.wrap_u64]; split <;> omega
 have eb : IntKind.u64.wrap b = if b < 0 then ((18446744073709551616 - y : Nat) : Int) else (y : Int) := by rw [IntKind.wrap_u64]; split <;> omega
 have en : ∀ z : Nat, z <= 9223372036854775808 -> 0 < z -> IntKind.u64.wrap (-((18446744073709551616 - z : Nat) : Int)) = (z : Int) := fun z h1 h2 => by rw [IntKind.wrap_u64]; omega
 by_cases h1 : a < 0 <;> by_cases h2 : b < 0
 ·have HR : Hid (Rep (x * y / 18446744073709551616) (x * y % 18446744073709551616) (a * b)) := rep_prod hx1 hy1 (by rw [Int.natCast_mul, show (x : Int) = -a by omega, show (y : Int) = -b by omega, Int.neg_mul_neg]) hxy
  rw [if_pos h1] at ea;rw [if_pos h2] at eb;have na := en x hx1 (by omega);obtain ⟨ca, hca⟩ : ∃ c, 18446744073709551616 - x = c := ⟨_, rfl⟩;rw [hca] at ea na;clear hca;have nb := en y hy1 (by omega);obtain ⟨cb, hcb⟩ : ∃ c, 18446744073709551616 - y = c := ⟨_, rfl⟩;rw [hcb] at eb nb;clear hcb;generalize x * y / 18446744073709551616 = H at HM HR;generalize x * y % 18446744073709551616 = L at HM HR;clear en hx hy ha hb hx1 hy1 hxy
  go_enter Tryz.func16, Tryz.ntmps16
  go_wp2_with (go_at_call 39; refine (HM.out _).mono ?_; rintro e w' ⟨rfl, rfl⟩)
  exact bodyPost_ret (v := .agg #[.int .u64 H, .int .u64 L]) (by simp [results, Tryz.results16, go_sem]) rfl ⟨_, _, rfl, HR.out, (Below.refl _ _).alloc (Nat.le_refl _) _⟩
 ·have HR : Hid (Rep (x * y / 18446744073709551616) (x * y % 18446744073709551616) (-(a * b))) := rep_prod hx1 hy1 (by rw [Int.natCast_mul, show (x : Int) = -a by omega, show (y : Int) = b by omega, Int.neg_mul]) hxy
  rw [if_pos h1] at ea;rw [if_neg h2] at eb;have qb : decide (b < 0) = false := by simpa using h2
  have na := en x hx1 (by omega);obtain ⟨ca, hca⟩ : ∃ c, 18446744073709551616 - x = c := ⟨_, rfl⟩;rw [hca] at ea na;clear hca;generalize x * y / 18446744073709551616 = H at HM HR;generalize x * y % 18446744073709551616 = L at HM HR;clear en hx hy ha hb hx1 hy1 hxy;have HT : Hid (∀ w : World, _) := fun w => turned_rep HR.out w
  go_enter Tryz.func16, Tryz.ntmps16
  go_wp2_with (go_at_call 39; refine (HM.out _).mono ?_; rintro e w' ⟨rfl, rfl⟩)
  refine (HT.out _).mono ?_;rintro e w1 ⟨h', l', rfl, hr1, hb1⟩;rw [Int.neg_neg] at hr1;have HR1 := Lib.hid hr1;have hz : w.heap.size < w1.heap.size := by have := hb1.size; simp at this; omega
  have c0 : w1.frozen? ⟨w.heap.size, 0, none⟩ = false := by rw [hb1.frozen (p := ⟨w.heap.size, 0, none⟩) (by simp)]; exact frozen_of_row _ _ _ _ _ (heap_new _ _ _ (by simp))
  have c1 : w1.frozen? ⟨w.heap.size, 1, none⟩ = false := by rw [hb1.frozen (p := ⟨w.heap.size, 1, none⟩) (by simp)]; exact frozen_of_row _ _ _ _ _ (heap_new _ _ _ (by simp))
  have d0 : w1.cell? ⟨w.heap.size, 0, none⟩ = some (.int .u64 0) := by rw [hb1.cell (p := ⟨w.heap.size, 0, none⟩) (by simp), cell_of_row _ _ _ _ _ _ (heap_new _ _ _ (by simp))]; rfl
  have d1 : w1.cell? ⟨w.heap.size, 1, none⟩ = some (.int .u64 0) := by rw [hb1.cell (p := ⟨w.heap.size, 1, none⟩) (by simp), cell_of_row _ _ _ _ _ _ (heap_new _ _ _ (by simp))]; rfl
  have hb2 : Hid (Below w.heap.size w w1) := (((Below.refl _ _).alloc (Nat.le_refl _) _).trans (hb1.mono (by simp)));clear hb1 hr1;go_wp2;exact bodyPost_ret (v := .agg #[.int .u64 h', .int .u64 l']) (by simp [results, Tryz.results16, go_sem, *]) rfl ⟨_, _, rfl, HR1.out, (hb2.out.setCell (p := ⟨w.heap.size, 0, none⟩) (by simp) _).setCell (p := ⟨w.heap.size, 1, none⟩) (by simp) _⟩
 ·have HR : Hid (Rep (x * y / 18446744073709551616) (x * y % 18446744073709551616) (-(a * b))) := rep_prod hx1 hy1 (by rw [Int.natCast_mul, show (x : Int) = a by omega, show (y : Int) = -b by omega, Int.mul_neg]) hxy
  rw [if_neg h1] at ea;have qa : decide (a < 0) = false := by simpa using h1
  rw [if_pos h2] at eb;have nb := en y hy1 (by omega);obtain ⟨cb, hcb⟩ : ∃ c, 18446744073709551616 - y = c := ⟨_, rfl⟩;rw [hcb] at eb nb;clear hcb;generalize x * y / 18446744073709551616 = H at HM HR;generalize x * y % 18446744073709551616 = L at HM HR;clear en hx hy ha hb hx1 hy1 hxy;have HT : Hid (∀ w : World, _) := fun w => turned_rep HR.out w
  go_enter Tryz.func16, Tryz.ntmps16
  go_wp2_with (go_at_call 39; refine (HM.out _).mono ?_; rintro e w' ⟨rfl, rfl⟩)
  refine (HT.out _).mono ?_;rintro e w1 ⟨h', l', rfl, hr1, hb1⟩;rw [Int.neg_neg] at hr1;have HR1 := Lib.hid hr1;have hz : w.heap.size < w1.heap.size := by have := hb1.size; simp at this; omega
  have c0 : w1.frozen? ⟨w.heap.size, 0, none⟩ = false := by rw [hb1.frozen (p := ⟨w.heap.size, 0, none⟩) (by simp)]; exact frozen_of_row _ _ _ _ _ (heap_new _ _ _ (by simp))
  have c1 : w1.frozen? ⟨w.heap.size, 1, none⟩ = false := by rw [hb1.frozen (p := ⟨w.heap.size, 1, none⟩) (by simp)]; exact frozen_of_row _ _ _ _ _ (heap_new _ _ _ (by simp))
  have d0 : w1.cell? ⟨w.heap.size, 0, none⟩ = some (.int .u64 0) := by rw [hb1.cell (p := ⟨w.heap.size, 0, none⟩) (by simp), cell_of_row _ _ _ _ _ _ (heap_new _ _ _ (by simp))]; rfl
  have d1 : w1.cell? ⟨w.heap.size, 1, none⟩ = some (.int .u64 0) := by rw [hb1.cell (p := ⟨w.heap.size, 1, none⟩) (by simp), cell_of_row _ _ _ _ _ _ (heap_new _ _ _ (by simp))]; rfl
  have hb2 : Hid (Below w.heap.size w w1) := (((Below.refl _ _).alloc (Nat.le_refl _) _).trans (hb1.mono (by simp)));clear hb1 hr1;go_wp2;exact bodyPost_ret (v := .agg #[.int .u64 h', .int .u64 l']) (by simp [results, Tryz.results16, go_sem, *]) rfl ⟨_, _, rfl, HR1.out, (hb2.out.setCell (p := ⟨w.heap.size, 0, none⟩) (by simp) _).setCell (p := ⟨w.heap.size, 1, none⟩) (by simp) _⟩
 ·have HR : Hid (Rep (x * y / 18446744073709551616) (x * y % 18446744073709551616) (a * b)) := rep_prod hx1 hy1 (by rw [Int.natCast_mul, show (x : Int) = a by omega, show (y : Int) = b by omega]) hxy
  rw [if_neg h1] at ea;have qa : decide (a < 0) = false := by simpa using h1
  rw [if_neg h2] at eb;have qb : decide (b < 0) = false := by simpa using h2
  generalize x * y / 18446744073709551616 = H at HM HR;generalize x * y % 18446744073709551616 = L at HM HR;clear en hx hy ha hb hx1 hy1 hxy
  go_enter Tryz.func16, Tryz.ntmps16
  go_wp2_with (go_at_call 39; refine (HM.out _).mono ?_; rintro e w' ⟨rfl, rfl⟩)
  exact bodyPost_ret (v := .agg #[.int .u64 H, .int .u64 L]) (by simp [results, Tryz.results16, go_sem]) rfl ⟨_, _, rfl, HR.out, (Below.refl _ _).alloc (Nat.le_refl _) _⟩
end
section
abbrev E2 := Int × Int
end
end Go.Proofs.YtpkoapmpknbgoaaGreat
namespace Go.Proofs.YtpkoapmpknbgoaaGreat.Wd
section
def mulE (x y : E2) : E2 := (x.1 * y.1 - x.2 * y.2, x.1 * y.2 + x.2 * y.1 + x.2 * y.2)
def addE (x y : E2) : E2 := (x.1 + y.1, x.2 + y.2)
def subE (x y : E2) : E2 := (x.1 - y.1, x.2 - y.2)
def unitE : Nat -> E2
 | 0 => (1, 0)
 | 1 => (0, 1)
 | 2 => (-1, 1)
 | 3 => (-1, 0)
 | 4 => (0, -1)
 | _ => (1, -1)
def leftE : Nat -> E2
 | 0 => (0, 0)
 | k + 1 => unitE k
def cornerE (s t d : Int) : E2 :=
 if 2 * s + t <= d /\ s + 2 * t <= d then (0, 0)
 else if s + 2 * t ≥ d /\ s <= t /\ 2 * s + t <= 2 * d then (0, 1)
 else if 2 * s + t ≥ d /\ s + 2 * t <= 2 * d /\ t <= s then (1, 0)
 else (1, 1)
def roundE (u : E2) (d : Int) : E2 := addE (u.1 / d, u.2 / d) (cornerE (u.1 % d) (u.2 % d) d)
def bestE (s t d : Int) : E2 :=
 let f1 := d - (s + 2 * t)
 let f2 := d - (2 * s + t)
 let f3 := 3 * d - (2 * s + t) - (s + 2 * t)
 let b1 : Int × E2 := if f1 < 0 then (f1, (0, 1)) else (0, (0, 0))
 let b2 : Int × E2 := if f2 < b1.1 then (f2, (1, 0)) else b1
 let b3 : Int × E2 := if f3 < b2.1 then (f3, (1, 1)) else b2
 b3.2
theorem best_corner {s t d : Int} (_hs : 0 <= s) (_hs1 : s < d) (ht : 0 <= t) (_ht1 : t < d) : bestE s t d = cornerE s t d := by
 unfold bestE cornerE;simp only;by_cases h1 : d - (s + 2 * t) < 0
 ·rw [if_pos h1]
  by_cases h2 : d - (2 * s + t) < d - (s + 2 * t)
  ·rw [if_pos h2]
   by_cases h3 : 3 * d - (2 * s + t) - (s + 2 * t) < d - (2 * s + t)
   ·rw [if_pos h3]
    rw [if_neg (by omega), if_neg (by omega), if_neg (by omega)]
   ·rw [if_neg h3]
    rw [if_neg (by omega), if_neg (by omega), if_pos (by omega)]
  ·rw [if_neg h2]
   by_cases h3 : 3 * d - (2 * s + t) - (s + 2 * t) < d - (s + 2 * t)
   ·rw [if_pos h3]
    rw [if_neg (by omega), if_neg (by omega), if_neg (by omega)]
   ·rw [if_neg h3]
    rw [if_neg (by omega), if_pos (by omega)]
 ·rw [if_neg h1]
  by_cases h2 : d - (2 * s + t) < 0
  ·rw [if_pos h2]
   by_cases h3 : 3 * d - (2 * s + t) - (s + 2 * t) < d - (2 * s + t)
   ·rw [if_pos h3]
    rw [if_neg (by omega), if_neg (by omega), if_neg (by omega)]
   ·rw [if_neg h3]
    rw [if_neg (by omega), if_neg (by omega), if_pos (by omega)]
  ·rw [if_neg h2]
   by_cases h3 : 3 * d - (2 * s + t) - (s + 2 * t) < 0
   ·omega
   ·rw [if_neg h3]
    rw [if_pos (by omega)]
def nearB (s t d : Int) : Bool := decide (-d <= 2 * s + t) && decide (2 * s + t <= d) && decide (-d <= s + 2 * t) && decide (s + 2 * t <= d) && decide (-d <= s - t) && decide (s - t <= d)
theorem near_first {s t d : Int} (hs : 0 <= s) (hs1 : s < d) (ht : 0 <= t) (ht1 : t < d) (i k : Int) (hi : -1 <= i) (hi2 : i <= 2) (hk : -1 <= k) (hk2 : k <= 2) :
  ((i < (cornerE s t d).1 ∨ (i = (cornerE s t d).1 /\ k < (cornerE s t d).2)) -> nearB (s - i * d) (t - k * d) d = false) /\ ((i, k) = cornerE s t d -> nearB (s - i * d) (t - k * d) d = true) := by
 rcases (show i = -1 ∨ i = 0 ∨ i = 1 ∨ i = 2 by omega) with rfl | rfl | rfl | rfl <;> rcases (show k = -1 ∨ k = 0 ∨ k = 1 ∨ k = 2 by omega) with rfl | rfl | rfl | rfl <;>
  ·unfold cornerE nearB
   constructor
   ·intro h
    simp only [Bool.and_eq_false_iff, decide_eq_false_iff_not]
    split at h
    ·simp only at h; omega
    ·split at h
     ·simp only at h; omega
     ·split at h
      ·simp only at h; omega
      ·simp only at h; omega
   ·intro h
    simp only [Bool.and_eq_true, decide_eq_true_eq]
    split at h
    ·simp only [Prod.mk.injEq] at h; omega
    ·split at h
     ·simp only [Prod.mk.injEq] at h; omega
     ·split at h
      ·simp only [Prod.mk.injEq] at h; omega
      ·simp only [Prod.mk.injEq] at h; omega
def digE (z : E2) : Nat :=
 if (z.1 + 5 * z.2) % 7 = 0 then 0 else if (z.1 + 5 * z.2) % 7 = 1 then 1 else if (z.1 + 5 * z.2) % 7 = 5 then 2 else if (z.1 + 5 * z.2) % 7 = 4 then 3 else if (z.1 + 5 * z.2) % 7 = 6 then 4 else if (z.1 + 5 * z.2) % 7 = 2 then 5 else 6
def upE (z : E2) : E2 := ((3 * (z.1 - (leftE (digE z)).1) + (z.2 - (leftE (digE z)).2)) / 7, (2 * (z.2 - (leftE (digE z)).2) - (z.1 - (leftE (digE z)).1)) / 7)
def downE (q : E2) (d : Nat) : E2 := addE (mulE q (2, 1)) (leftE d)
theorem downE_eq (q : E2) (d : Nat) : downE q d = (2 * q.1 - q.2 + (leftE d).1, q.1 + 3 * q.2 + (leftE d).2) := by
 unfold downE addE mulE;ext <;> simp only <;> omega
theorem left_cases {d : Nat} (h : d < 7) : (d = 0 /\ leftE d = (0, 0)) ∨ (d = 1 /\ leftE d = (1, 0)) ∨ (d = 2 /\ leftE d = (0, 1)) ∨ (d = 3 /\ leftE d = (-1, 1)) ∨ (d = 4 /\ leftE d = (-1, 0)) ∨ (d = 5 /\ leftE d = (0, -1)) ∨ (d = 6 /\ leftE d = (1, -1)) := by
 rcases (show d = 0 ∨ d = 1 ∨ d = 2 ∨ d = 3 ∨ d = 4 ∨ d = 5 ∨ d = 6 by omega) with rfl | rfl | rfl | rfl | rfl | rfl | rfl <;> simp [leftE, unitE]
theorem digE_lt (z : E2) : digE z < 7 := by
 unfold digE
 repeat (split; · omega)
 omega
theorem digE_down (q : E2) {d : Nat} (h : d < 7) : digE (downE q d) = d := by
 rw [downE_eq];unfold digE;rcases left_cases h with ⟨rfl, e⟩ | ⟨rfl, e⟩ | ⟨rfl, e⟩ | ⟨rfl, e⟩ | ⟨rfl, e⟩ | ⟨rfl, e⟩ | ⟨rfl, e⟩ <;> rw [e] <;> simp only
 ·rw [if_pos (by omega)]
 ·rw [if_neg (by omega), if_pos (by omega)]
 ·rw [if_neg (by omega), if_neg (by omega), if_pos (by omega)]
 ·rw [if_neg (by omega), if_neg (by omega), if_neg (by omega), if_pos (by omega)]
 ·rw [if_neg (by omega), if_neg (by omega), if_neg (by omega), if_neg (by omega), if_pos (by omega)]
 ·rw [if_neg (by omega), if_neg (by omega), if_neg (by omega), if_neg (by omega), if_neg (by omega), if_pos (by omega)]
 ·rw [if_neg (by omega), if_neg (by omega), if_neg (by omega), if_neg (by omega), if_neg (by omega), if_neg (by omega)]
theorem upE_down (q : E2) {d : Nat} (h : d < 7) : upE (downE q d) = q := by
 unfold upE;rw [digE_down q h, downE_eq];generalize leftE d = l;ext <;> simp only <;> omega
theorem down_up (z : E2) : downE (upE z) (digE z) = z := by
 rw [downE_eq];unfold upE;have hl := left_cases (digE_lt z);have hd : digE z = if (z.1 + 5 * z.2) % 7 = 0 then 0 else if (z.1 + 5 * z.2) % 7 = 1 then 1 else if (z.1 + 5 * z.2) % 7 = 5 then 2 else if (z.1 + 5 * z.2) % 7 = 4 then 3 else if (z.1 + 5 * z.2) % 7 = 6 then 4 else if (z.1 + 5 * z.2) % 7 = 2 then 5 else 6 := rfl;generalize digE z = d at *;obtain ⟨a, b⟩ := z;simp only at *;rcases hl with ⟨rfl, e⟩ | ⟨rfl, e⟩ | ⟨rfl, e⟩ | ⟨rfl, e⟩ | ⟨rfl, e⟩ | ⟨rfl, e⟩ | ⟨rfl, e⟩ <;> rw [e] <;> ext <;> simp only <;> split at hd <;> (try omega) <;> split at hd <;> (try omega) <;> split at hd <;> (try omega) <;> split at hd <;> (try omega) <;> split at hd <;> (try omega) <;> split at hd <;> omega
theorem round_up (z : E2) : roundE (mulE z (3, -1)) 7 = upE z := by
 have h := down_up z;have hl := left_cases (digE_lt z);generalize upE z = q at *;generalize digE z = d at *;rw [downE_eq] at h;subst h;unfold roundE mulE cornerE addE;rcases hl with ⟨_, e⟩ | ⟨_, e⟩ | ⟨_, e⟩ | ⟨_, e⟩ | ⟨_, e⟩ | ⟨_, e⟩ | ⟨_, e⟩ <;> rw [e] <;> ext <;> simp only <;> (repeat' split) <;> simp only <;> omega
end
end Go.Proofs.YtpkoapmpknbgoaaGreat.Wd
namespace Go.Proofs.YtpkoapmpknbgoaaGreat
section
open Go
section
variable {P : Program} {ops : Array Oper}
def Leaves (a : Act) (dst : Option Tmp) (S : Value -> World -> Prop) : Exit -> Act -> World -> Prop
 | .normal, a', w' => ∃ v, a' = a.put dst v /\ S v w'
 | _, _, _ => False
theorem Leaves.lets {a : Act} {dst : Option Tmp} {S : Value -> World -> Prop} : ¬ LetsOut (Leaves a dst S) := fun ⟨_, _, h⟩ => h
def stepV (P : Program) (ops : Array Oper) (o : Oper) (S : Value -> World -> Prop) (a : Act) (w : World) : Prop :=
 if Region.wanted o (yielded ops a.tmps) = true then o.wp P a w (Leaves a o.dst S .normal) (Only fun _ _ => False) else Leaves a o.dst S .normal (a.put o.dst undef) w
theorem wp_leaves {o : Oper} {a b : Act} {dst : Option Tmp} {S : Value -> World -> Prop} {w : World} {next : Act -> World -> Prop} (h : o.wp P a w next (Leaves b dst S)) : o.wp P a w next (Only fun _ _ => False) := by
 unfold Oper.wp at *;generalize (execOp a.eval o).run P w = r at *;cases r with
 | ok n w' =>
  cases n <;> simp only [Oper.upon] at h ⊢
  case enter f args =>
   refine Calls.mono h fun e w'' he => ?_
   cases e with
   | returned v => exact he
   | panicked c => exact he
   | outgrown => exact (Leaves.lets he).elim
  all_goals exact h
 | halt x w' =>
  cases x <;> simp only [Oper.upon] at h ⊢
  case panic v => exact h
theorem stepV_of_list {o : Oper} {S : Value -> World -> Prop} {a : Act} {w : World} (h : wpList P ops (Leaves a o.dst S) [o] a w) : stepV P ops o S a w := by
 simp only [wpList] at h;unfold stepV
 split
 ·rename_i hw
  rw [if_pos hw] at h;rcases h with h | ⟨_, h⟩
  ·exact wp_leaves h
  ·exact (Leaves.lets h).elim
 ·rename_i hw
  rw [if_neg hw] at h;exact h
theorem put_defers' (a : Act) (dst : Option Tmp) (v : Value) : (a.put dst v).defers = a.defers := by cases dst <;> rfl
theorem put_eq {a c : Act} {dst : Option Tmp} {v u : Value} (h : c.put dst v = c.put dst u) (hs : a.tmps.size = c.tmps.size) : a.put dst v = a.put dst u := by
 cases dst with
 | none => rfl
 | some d =>
  by_cases hd : d < c.tmps.size
  ·have h1 := congrArg (fun x : Act => x.tmps[d]?) h
   simp [Act.put, hd] at h1;rw [h1]
  ·have hd' : ¬ d < a.tmps.size := by rw [hs]; exact hd
   simp [Act.put, Array.setIfInBounds, hd']
theorem wanted_same {o : Oper} {a c : Act} (he : ∀ d ∈ o.looksAt ops, a.tmps[d]? = c.tmps[d]?) : Region.wanted o (yielded ops a.tmps) = Region.wanted o (yielded ops c.tmps) := by
 unfold Region.wanted;cases hg : o.guard with
 | none => rfl
 | some gw =>
  obtain ⟨g, want⟩ := gw;have hy : yielded ops a.tmps g = yielded ops c.tmps g := by
   unfold yielded;cases ht : (ops[g]?).bind (·.dst) with
   | none => rfl
   | some t =>
    have := he t (by simp [Oper.looksAt, hg, ht]);simp [this]
  simp only [hy]
theorem exec_same {o : Oper} {a c : Act} (hs : ∀ cs b, o.op ≠ .select cs b) (he : ∀ d ∈ o.looksAt ops, a.tmps[d]? = c.tmps[d]?) : execOp a.eval o = execOp c.eval o :=
 execOp_congr o hs fun x hx => by
  cases x with
  | tmp t =>
   have := he t (List.mem_append_left _ (List.mem_filterMap.2 ⟨.tmp t, by simpa using hx, rfl⟩));simp only [Act.eval, Array.getD_eq_getD_getElem?, this]
  | _ => rfl
theorem stepV_congr {o : Oper} {S : Value -> World -> Prop} {a c : Act} {w : World} (hs : ∀ cs b, o.op ≠ .select cs b) (hz : a.tmps.size = c.tmps.size) (he : ∀ d ∈ o.looksAt ops, a.tmps[d]? = c.tmps[d]?)
  (h : stepV P ops o S c w) : stepV P ops o S a w := by
 have tr : ∀ v w', Leaves c o.dst S .normal (c.put o.dst v) w' -> Leaves a o.dst S .normal (a.put o.dst v) w' := fun v w' ⟨u, e, hu⟩ => ⟨u, put_eq e hz, hu⟩
 unfold stepV at *;rw [wanted_same he]
 split
 ·rename_i hw
  rw [if_pos hw] at h;unfold Oper.wp at *;rw [exec_same hs he];generalize (execOp c.eval o).run P w = r at *;cases r with
  | ok n w' =>
   cases n <;> simp only [Oper.upon] at h ⊢
   case value v => exact tr _ _ h
   case skip => exact tr _ _ h
   case defer d =>
    exfalso;obtain ⟨u, e, _⟩ := h;have := congrArg (fun x : Act => x.defers.length) e;simp [put_defers'] at this
   case enter f args =>
    refine Calls.mono h fun e w'' he => ?_
    cases e with
    | returned v => exact tr _ _ he
    | panicked c => exact he
    | outgrown => exact he
   case row row args => exact Rows.mono h fun u w'' he => tr _ _ he
  | halt x w' =>
   cases x <;> simp only [Oper.upon] at h ⊢
   case panic v => exact h
 ·rename_i hw
  rw [if_neg hw] at h;exact tr _ _ h
theorem stepV_wpOp {i : Nat} {o : Oper} (ho : ops[i]? = some o) {S : Value -> World -> Prop} {a : Act} {w : World} {n K : Act -> World -> Prop} (hn : ∀ v w', S v w' -> n (a.put o.dst v) w') (h : stepV P ops o S a w) : wpOp P ops (Only K) i n a w := by
 unfold Go.wpOp;simp only [ho];unfold stepV at h
 split
 ·rename_i hw
  rw [if_pos hw] at h;exact .inl (only_wp (Oper.wp_mono (fun a' w' ⟨v, e, hs⟩ => by rw [e]; exact hn v w' hs) h))
 ·rename_i hw
  rw [if_neg hw] at h;obtain ⟨v, e, hs⟩ := h;rw [e];exact hn v w hs
def fillD (D : Nat -> Bool) (V : Nat -> Value) : List Oper -> Nat -> Act -> Act
 | [], _, a => a
 | o :: r, i, a => fillD D V r (i + 1) (if D i then a.put o.dst (V i) else a)
theorem put_size (a : Act) (dst : Option Tmp) (v : Value) : (a.put dst v).tmps.size = a.tmps.size := by cases dst <;> simp [Act.put]
theorem fill_size (D : Nat -> Bool) (V : Nat -> Value) : ∀ (l : List Oper) (i : Nat) (a : Act), (fillD D V l i a).tmps.size = a.tmps.size
 | [], _, _ => rfl
 | o :: r, i, a => by
  unfold fillD;rw [fill_size D V r]
  split
  ·exact put_size _ _ _
  ·rfl
theorem fill_none (D : Nat -> Bool) (V : Nat -> Value) : ∀ (l : List Oper) (i : Nat) (a : Act), (∀ j, i <= j -> D j = false) -> fillD D V l i a = a
 | [], _, _, _ => rfl
 | o :: r, i, a, h => by
  unfold fillD;rw [h i (Nat.le_refl _), if_neg (by simp)];exact fill_none D V r _ _ fun j hj => h j (by omega)
theorem fill_congr (D D' : Nat -> Bool) (V V' : Nat -> Value) : ∀ (l : List Oper) (i : Nat) (a : Act), (∀ j, i <= j -> j < i + l.length -> D j = D' j /\ (D j = true -> V j = V' j)) -> fillD D V l i a = fillD D' V' l i a
 | [], _, _, _ => rfl
 | o :: r, i, a, h => by
  unfold fillD;obtain ⟨h1, h2⟩ := h i (Nat.le_refl _) (by simp);have e : (if D i = true then a.put o.dst (V i) else a) = if D' i = true then a.put o.dst (V' i) else a := by
   rw [<- h1]
   split
   ·rename_i hd; rw [h2 hd]
   ·rfl
  rw [e];exact fill_congr D D' V V' r _ _ fun j hj hl => h j (by omega) (by simp; omega)
theorem fill_at (D D' : Nat -> Bool) (V : Nat -> Value) (s : Nat) : ∀ (l : List Oper) (i : Nat) (a b : Act), a.tmps.size = b.tmps.size -> a.tmps[s]? = b.tmps[s]? ->
  (∀ j o, l[j]? = some o -> o.dst = some s -> D (i + j) = D' (i + j)) -> (fillD D V l i a).tmps[s]? = (fillD D' V l i b).tmps[s]?
 | [], _, _, _, _, h, _ => h
 | o :: r, i, a, b, hz, h, hd => by
  unfold fillD;refine fill_at D D' V s r _ _ _ ?_ ?_ fun j o' hj ho => by
   have := hd (j + 1) o' (by simpa using hj) ho;rw [show i + 1 + j = i + (j + 1) from by omega]; exact this
  ·split <;> split <;> simp [put_size, hz]
  ·by_cases hs : o.dst = some s
   ·have e := hd 0 o rfl hs
    rw [Nat.add_zero] at e;rw [<- e]
    split
    ·rw [hs]
     by_cases hlt : s < a.tmps.size
     ·have : s < b.tmps.size := by omega
      simp [Act.put, hlt, this]
     ·have : ¬ s < b.tmps.size := by omega
      simp [Act.put, Array.setIfInBounds, hlt, this]
    ·exact h
   ·have keep : ∀ (a : Act) (v : Value), (a.put o.dst v).tmps[s]? = a.tmps[s]? := fun a v => by
     cases ho : o.dst with
     | none => rfl
     | some d =>
      have hne : d ≠ s := fun e => hs (by rw [ho, e])
      simp [Act.put, Array.getElem?_setIfInBounds_ne hne]
    split <;> split <;> simp [keep, h]
theorem fill_put (D : Nat -> Bool) (V : Nat -> Value) (dst : Option Tmp) (v : Value) : ∀ (l : List Oper) (i : Nat) (a : Act), (∀ o ∈ l, ∀ d, dst = some d -> o.dst ≠ some d) ->
  (fillD D V l i a).put dst v = fillD D V l i (a.put dst v)
 | [], _, _, _ => rfl
 | o :: r, i, a, h => by
  unfold fillD;rw [fill_put D V dst v r _ _ fun o' ho => h o' (by simp [ho])];congr 1
  split
  ·exact Act.put_comm _ _ _ fun d hd he => h o (by simp) d he hd
  ·rfl
theorem fill_take (D : Nat -> Bool) (V : Nat -> Value) (v : Value) : ∀ (l : List Oper) (i : Nat) (a : Act) (k : Nat) (o : Oper), l[k]? = some o -> D (i + k) = false ->
  (∀ q o', l[q]? = some o' -> q ≠ k -> ∀ d, o.dst = some d -> o'.dst ≠ some d) ->
  (fillD D V l i a).put o.dst v = fillD (fun j => if j = i + k then true else D j) (fun j => if j = i + k then v else V j) l i a
 | [], _, _, _, _, h, _, _ => by simp at h
 | x :: r, i, a, 0, o, h, hD, hd => by
  obtain rfl : x = o := by simpa using h
  rw [Nat.add_zero] at hD ⊢;unfold fillD;rw [hD, if_neg (by simp), fill_put D V _ _ r _ _ fun o' ho d hd1 => by
   obtain ⟨q, hq⟩ := List.mem_iff_getElem?.1 ho;exact hd (q + 1) o' (by simpa using hq) (by omega) d hd1]
  simp only [if_true];exact fill_congr _ _ _ _ r _ _ fun j hj _ => by
   rw [if_neg (by omega), if_neg (by omega)]; exact ⟨rfl, fun _ => rfl⟩
 | x :: r, i, a, k + 1, o, h, hD, hd => by
  unfold fillD;rw [fill_take D V v r (i + 1) _ k o (by simpa using h) (by rw [show i + 1 + k = i + (k + 1) from by omega]; exact hD) fun q o' hq hne d hd1 => hd (q + 1) o' (by simpa using hq) (by omega) d hd1];rw [show i + 1 + k = i + (k + 1) from by omega];congr 1;rw [if_neg (show ¬ i = i + (k + 1) by omega), if_neg (show ¬ i = i + (k + 1) by omega)]
def needs (o : Oper) (j : Nat) : Bool := o.after.toList.any fun e => Region.binds .any e && e.on == j
def invList (P : Program) (ops : Array Oper) (G : World -> World -> Prop) (w0 : World) (R : Nat -> Value -> World -> Prop) (K : Act -> World -> Prop) : List Oper -> List Value -> Act -> Prop
 | [], vs, a => ∀ w, G w0 w -> (∀ j, j < vs.length -> R j (vs.getD j undef) w) -> K a w
 | o :: r, vs, a => (∀ w, G w0 w -> (∀ j, j < vs.length -> needs o j = true -> R j (vs.getD j undef) w) -> wpList P ops (Leaves a o.dst fun v w' => G w w' /\ R vs.length v w') [o] a w) /\
  ∀ v, invList P ops G w0 R K r (vs ++ [v]) (a.put o.dst v)
theorem range_snoc (V : Nat -> Value) (m : Nat) : (List.range m).map V ++ [V m] = (List.range (m + 1)).map V := by rw [List.range_succ]; simp
theorem range_get (V : Nat -> Value) {m j : Nat} (h : j < m) : ((List.range m).map V).getD j undef = V j := by simp [List.getD_eq_getElem?_getD, h]
theorem inv_at {G : World -> World -> Prop} {w0 : World} {R : Nat -> Value -> World -> Prop} {K : Act -> World -> Prop} (V : Nat -> Value) : ∀ (r : List Oper) (m : Nat) (a : Act), invList P ops G w0 R K r ((List.range m).map V) a ->
  (∀ k o, r[k]? = some o -> ∀ w, G w0 w -> (∀ j, j < m + k -> needs o j = true -> R j (V j) w) ->
   wpList P ops (Leaves (fillD (fun j => decide (j < m + k)) V r m a) o.dst fun v w' => G w w' /\ R (m + k) v w') [o] (fillD (fun j => decide (j < m + k)) V r m a) w) /\
  (∀ w, G w0 w -> (∀ j, j < m + r.length -> R j (V j) w) -> K (fillD (fun _ => true) V r m a) w)
 | [], m, a, h => ⟨fun k o hk => by simp at hk, fun w hg hr => h w hg fun j hj => by
   have hj' : j < m := by simpa using hj
   rw [range_get V hj']; exact hr j (by simpa using hj')⟩
 | o :: r, m, a, h => by
  obtain ⟨h1, h2⟩ := h;have h3 := h2 (V m);rw [range_snoc] at h3;obtain ⟨i1, i2⟩ := inv_at V r (m + 1) _ h3;refine ⟨fun k o' hk w hg hr => ?_, fun w hg hr => ?_⟩
  ·cases k with
   | zero =>
    obtain rfl : o = o' := by simpa using hk
    rw [Nat.add_zero] at hr ⊢;rw [fill_none _ _ _ _ _ fun j hj => by simp; omega];have := h1 w hg fun j hj hn => by
     have hj' : j < m := by simpa using hj
     rw [range_get V hj']; exact hr j hj' hn
    simpa using this
   | succ k =>
    have := i1 k o' (by simpa using hk) w hg fun j hj hn => hr j (by omega) hn
    rw [show m + 1 + k = m + (k + 1) from by omega] at this;have e : fillD (fun j => decide (j < m + (k + 1))) V (o :: r) m a = fillD (fun j => decide (j < m + (k + 1))) V r (m + 1) (a.put o.dst (V m)) := by
     show fillD _ V r (m + 1) _ = _;rw [if_pos (by simp)]
    rw [e];exact this
  ·have := i2 w hg fun j hj => hr j (by simp; omega)
   exact this
def invB (ops : Array Oper) : Bool :=
 Region.noSelect ops && (List.range ops.size).all fun i => match ops[i]? with
  | none => true
  | some oi =>
   (oi.after.toList.all fun e => !Region.binds .any e || decide (e.on < i)) &&
   (List.range ops.size).all fun q => q == i || match (ops[q]?).bind (·.dst) with
    | none => true
    | some d => oi.dst != some d && (!(oi.looksAt ops).contains d || (decide (q < i) && needs oi q) || (decide (i < q) && ((waits ops.toList []).getD q 0).testBit i))
theorem rem_nil (hback : ∀ i oi, ops[i]? = some oi -> ∀ e ∈ oi.after, Region.binds .any e = true -> e.on < i) (listed : Array Bool) (hs : listed.size = ops.size) (hr : Region.ready .any ops listed = []) : ∀ i, i < ops.size -> listed.getD i false = true := by
 intro i
 induction i using Nat.strongRecOn with
 | _ i ih =>
  intro hi;by_cases hd : listed.getD i false = true
  ·exact hd
  ·exfalso
   have : i ∈ Region.ready .any ops listed := mem_ready.2 ⟨by
    have : i < listed.size := by omega
    simp [this] at hd ⊢; exact hd, _, Array.getElem?_eq_getElem hi, fun e he hb => by
     have hlt := hback i _ (Array.getElem?_eq_getElem hi) e he hb;exact ih e.on hlt (by omega)⟩
   rw [hr] at this;cases this
theorem inv_any {l : List Oper} {G : World -> World -> Prop} {w0 : World} {R : Nat -> Value -> World -> Prop} {K : Act -> World -> Prop} {a0 : Act} (hB : invB l.toArray = true)
  (Gt : ∀ w w1 w2, G w w1 -> G w1 w2 -> G w w2) (mono : ∀ i v w w', G w0 w -> G w w' -> R i v w -> R i v w')
  (h : invList P l.toArray G w0 R K l [] a0) :
  ∀ (fuel : Nat) (listed : Array Bool) (V : Nat -> Value) (w : World), listed.size = l.length -> Closed l.toArray listed -> G w0 w -> (∀ j, listed.getD j false = true -> R j (V j) w) ->
  (rem l.toArray listed).length <= fuel -> wpAny P .any l.toArray (Only K) fuel listed (fillD (fun j => listed.getD j false) V l 0 a0) w := by
 unfold invB at hB;simp only [Bool.and_eq_true, List.all_eq_true, List.mem_range] at hB;obtain ⟨hsel, hB⟩ := hB;have hB' : ∀ i oi, l.toArray[i]? = some oi -> _ := fun i oi hi => by
  have := hB i (Array.getElem?_eq_some_iff.1 hi).1;simp only [hi, Bool.and_eq_true, List.all_eq_true, List.mem_range] at this;exact this
 have hback : ∀ i oi, l.toArray[i]? = some oi -> ∀ e ∈ oi.after, Region.binds .any e = true -> e.on < i := fun i oi hi e he hb => by
  have := (hB' i oi hi).1 e (by simpa using he);simpa [hb] using this
 have htr : Truth l.toArray (waits l.toArray.toList []) := waits_truth hback l.toArray.toList [] (fun j => by simp) (fun i t hi => by simp at hi);have hlen : (waits l.toArray.toList []).length = l.length := by rw [waits_length]; simp
 have hall : ∀ listed : Array Bool, listed.size = l.length -> Region.ready .any l.toArray listed = [] -> ∀ i, i < l.length -> listed.getD i false = true := fun listed hs hr i hi =>
  rem_nil hback listed (by simpa using hs) hr i (by simpa using hi)
 have hend : ∀ (listed : Array Bool) (V : Nat -> Value) (w : World), (∀ i, i < l.length -> listed.getD i false = true) -> G w0 w -> (∀ j, listed.getD j false = true -> R j (V j) w) ->
   K (fillD (fun j => listed.getD j false) V l 0 a0) w := fun listed V w hd hg hr => by
  have := (inv_at V l 0 a0 h).2 w hg fun j hj => hr j (hd j (by simpa using hj))
  rw [fill_congr _ (fun _ => true) V V l 0 a0 fun j _ hj => ⟨hd j (by simpa using hj), fun _ => rfl⟩];exact this
 intro fuel
 induction fuel with
 | zero =>
  intro listed V w hs hcl hg hr hf;have hnil : rem l.toArray listed = [] := List.eq_nil_of_length_eq_zero (by omega);have hd : ∀ i, i < l.length -> listed.getD i false = true := fun i hi => by
   by_cases hd : listed.getD i false = true
   ·exact hd
   ·exfalso
    have : i ∈ rem l.toArray listed := mem_rem.2 ⟨by simpa using hi, by
     have : i < listed.size := by omega
     simp [this] at hd ⊢; exact hd⟩
    rw [hnil] at this;cases this
  refine ⟨?_, hend listed V w hd hg hr⟩;cases hrd : Region.ready .any l.toArray listed with
  | nil => rfl
  | cons i q =>
   have hi : i ∈ Region.ready .any l.toArray listed := by rw [hrd]; simp
   obtain ⟨hun, o, ho, _⟩ := mem_ready.1 hi;have : i ∈ rem l.toArray listed := mem_rem.2 ⟨(Array.getElem?_eq_some_iff.1 ho).1, hun⟩;rw [hnil] at this;cases this
 | succ fuel ih =>
  intro listed V w hs hcl hg hr hf;refine ⟨fun hrd => hend listed V w (hall listed hs hrd) hg hr, fun i hi => ?_⟩;obtain ⟨hun, o, ho, hdone⟩ := mem_ready.1 hi;have hlt : i < l.toArray.size := (Array.getElem?_eq_some_iff.1 ho).1;have hltl : i < l.length := by simpa using hlt
  have hlis : i < listed.size := by omega
  have hun' : listed.getD i false = false := by simp [hlis] at hun ⊢; exact hun
  have hol : l[i]? = some o := by simpa using ho
  have hst := (inv_at V l 0 a0 h).1 i o hol w hg fun j hj hn => by
   refine hr j ?_;unfold needs at hn;simp only [List.any_eq_true, Bool.and_eq_true, beq_iff_eq] at hn;obtain ⟨e, he, hb, rfl⟩ := hn;exact hdone e (by simpa using he) hb
  rw [Nat.zero_add] at hst;have hsel' : ∀ cs b, o.op ≠ .select cs b := by
   intro cs b hc;unfold Region.noSelect at hsel;simp only [Array.all_eq_true] at hsel;have := hsel i (by simpa using hlt);rw [(Array.getElem?_eq_some_iff.1 ho).2] at this;rw [hc] at this;simp at this
  have hsv := stepV_congr (a := fillD (fun j => listed.getD j false) V l 0 a0) hsel' (by rw [fill_size, fill_size]) (fun d hd => ?_) (stepV_of_list hst)
  ·refine stepV_wpOp ho ?_ hsv
   rintro v w' ⟨hgw, hR⟩;rw [fill_take (fun j => listed.getD j false) V v l 0 a0 i o hol (by rw [Nat.zero_add]; exact hun') fun q o' hq hne d hd1 hd2 => by
    have h1 := (hB' i o ho).2 q (by have := (List.getElem?_eq_some_iff.1 hq).1; simpa using this);have hq' : l.toArray[q]? = some o' := by simpa using hq
    simp [hne, hq', hd2, hd1] at h1]
   have hcl' := hcl.set hi;have e : (fun j => if j = 0 + i then true else listed.getD j false) = fun j => (listed.setIfInBounds i true).getD j false := by
    funext j
    rw [Nat.zero_add];by_cases hj : j = i
    ·subst hj; simp [hlis]
    ·rw [if_neg hj, getD_set_ne false (fun e => hj e.symm)]
   rw [e];refine ih _ _ w' (by simpa using hs) hcl' (Gt _ _ _ hg hgw) (fun j hj => ?_) ?_
   ·rw [Nat.zero_add]
    by_cases hji : j = i
    ·subst hji; rw [if_pos rfl]; exact hR
    ·rw [if_neg hji]
     rw [getD_set_ne false (fun e => hji e.symm)] at hj;exact mono j _ w w' hg hgw (hr j hj)
   ·obtain ⟨τ, ρ, e1, e2, _⟩ := rem_split (by simpa using hs) (mem_rem.2 ⟨hlt, hun⟩)
    rw [e2];rw [e1] at hf;simp only [List.length_append, List.length_cons] at hf ⊢;omega
  ·refine fill_at _ _ V d l 0 a0 a0 rfl rfl fun q o' hq hod => ?_
   rw [Nat.zero_add];have hq' : l.toArray[q]? = some o' := by simpa using hq
   have hql : q < l.length := (List.getElem?_eq_some_iff.1 hq).1;by_cases hqi : q = i
   ·subst hqi; rw [hun']; simp
   ·have h1 := (hB' i o ho).2 q (by simpa using hql)
    have hdc : (o.looksAt l.toArray).contains d = true := by simpa using hd
    simp only [hqi, beq_iff_eq, hq', Option.bind_some, hod, hdc, Bool.not_true, Bool.false_or, Bool.or_eq_true, Bool.and_eq_true, decide_eq_true_eq, false_or] at h1;rcases h1.2 with ⟨h2, h3⟩ | ⟨h2, h3⟩
    ·rw [decide_eq_true h2]
     unfold needs at h3;simp only [List.any_eq_true, Bool.and_eq_true, beq_iff_eq] at h3;obtain ⟨e, he, hb, rfl⟩ := h3;exact hdone e (by simpa using he) hb
    ·rw [decide_eq_false (by omega)]
     by_cases hqd : listed.getD q false = true
     ·exfalso
      have := htr.listed hcl q o' i (by omega) hq' (fun e he hb => hcl q o' hq' hqd e he hb) h3;rw [hun'] at this;cases this
     ·simpa using hqd
theorem wp_region_inv {id : Nat} {l : List Oper} {Q : Exit -> Act -> World -> Prop} {a : Act} {w : World} (G : World -> World -> Prop) (R : Nat -> Value -> World -> Prop) (hm : P.follows .mixedOrders = true) (hB : invB l.toArray = true)
  (Gr : ∀ w, G w w) (Gt : ∀ w w1 w2, G w w1 -> G w1 w2 -> G w w2) (mono : ∀ i v w1 w2, G w.drew w1 -> G w1 w2 -> R i v w1 -> R i v w2)
  (h : invList P l.toArray G w.drew R (Q .normal) l [] a) : (Code.region id l.toArray true).wp P Q a w := by
 refine Code.wp_mono (Q := Only (Q .normal)) (fun e a w hq => by cases e <;> first | exact hq | exact hq.elim) ?_;refine wp_region_any hm ?_;have h0 := inv_any hB Gt mono h l.toArray.size (Array.replicate l.toArray.size false) (fun _ => undef) w.drew (by simp) (fun j oj _ hl => by rw [getD_replicate0] at hl; cases hl) (Gr _) (fun j hj => by rw [getD_replicate0] at hj; cases hj) ?_
 ·rw [fill_none] at h0
  ·exact h0
  ·intro j _; exact getD_replicate0 _ _
 ·refine Nat.le_trans (List.length_filter_le _ _) ?_
  simp
end
variable {P : Program} {ops : Array Oper} {G : World -> World -> Prop} {w0 : World} {R : Nat -> Value -> World -> Prop} {K : Act -> World -> Prop}
theorem inv_cons {o : Oper} {r : List Oper} {vs : List Value} {a : Act}
 (h1 : ∀ w, G w0 w -> (∀ j, j < vs.length -> needs o j = true -> R j (vs.getD j undef) w) -> wpList P ops (Leaves a o.dst fun v w' => G w w' /\ R vs.length v w') [o] a w)
 (h2 : ∀ v, invList P ops G w0 R K r (vs ++ [v]) (a.put o.dst v)) : invList P ops G w0 R K (o :: r) vs a := ⟨h1, h2⟩
theorem inv_done {vs : List Value} {a : Act} (h : ∀ w, G w0 w -> (∀ j, j < vs.length -> R j (vs.getD j undef) w) -> K a w) : invList P ops G w0 R K [] vs a := h
end
section
open Go Go.RowKit
section
variable {P : Program} {ops : Array Oper}
def uses (o : Oper) (j : Nat) : Bool := o.after.toList.any fun e => Region.binds .any e && e.on == j && (match e.ground with | .data => true | .guard => true | _ => false)
theorem uses_needs {o : Oper} {j : Nat} (h : uses o j = true) : needs o j = true := by
 unfold uses at h;unfold needs;rw [List.any_eq_true] at h ⊢;obtain ⟨e, he, h⟩ := h;rw [Bool.and_eq_true] at h;exact ⟨e, he, h.1⟩
def invList2 (P : Program) (ops : Array Oper) (G : World -> World -> Prop) (T : Nat -> World -> World -> Prop) (alive : Nat -> Bool) (w0 : World) (R : Nat -> Value -> World -> Prop) (K : Act -> World -> Prop) : List Oper -> List Value -> Act -> Prop
 | [], vs, a => ∀ w, G w0 w -> (∀ j, j < vs.length -> alive j = true -> R j (vs.getD j undef) w) -> K a w
 | o :: r, vs, a => (∀ w, G w0 w -> (∀ j, j < vs.length -> uses o j = true -> R j (vs.getD j undef) w) -> wpList P ops (Leaves a o.dst fun v w' => T vs.length w w' /\ R vs.length v w') [o] a w) /\
  ∀ v, invList2 P ops G T alive w0 R K r (vs ++ [v]) (a.put o.dst v)
theorem inv2_at {G : World -> World -> Prop} {T : Nat -> World -> World -> Prop} {alive : Nat -> Bool} {w0 : World} {R : Nat -> Value -> World -> Prop} {K : Act -> World -> Prop} (V : Nat -> Value) : ∀ (r : List Oper) (m : Nat) (a : Act), invList2 P ops G T alive w0 R K r ((List.range m).map V) a ->
  (∀ k o, r[k]? = some o -> ∀ w, G w0 w -> (∀ j, j < m + k -> uses o j = true -> R j (V j) w) ->
   wpList P ops (Leaves (fillD (fun j => decide (j < m + k)) V r m a) o.dst fun v w' => T (m + k) w w' /\ R (m + k) v w') [o] (fillD (fun j => decide (j < m + k)) V r m a) w) /\
  (∀ w, G w0 w -> (∀ j, j < m + r.length -> alive j = true -> R j (V j) w) -> K (fillD (fun _ => true) V r m a) w)
 | [], m, a, h => ⟨fun k o hk => by simp at hk, fun w hg hr => h w hg fun j hj hl => by
   have hj' : j < m := by simpa using hj
   rw [range_get V hj']; exact hr j (by simpa using hj') hl⟩
 | o :: r, m, a, h => by
  obtain ⟨h1, h2⟩ := h;have h3 := h2 (V m);rw [range_snoc] at h3;obtain ⟨i1, i2⟩ := inv2_at V r (m + 1) _ h3;refine ⟨fun k o' hk w hg hr => ?_, fun w hg hr => ?_⟩
  ·cases k with
   | zero =>
    obtain rfl : o = o' := by simpa using hk
    rw [Nat.add_zero] at hr ⊢;rw [fill_none _ _ _ _ _ fun j hj => by simp; omega];have := h1 w hg fun j hj hn => by
     have hj' : j < m := by simpa using hj
     rw [range_get V hj']; exact hr j hj' hn
    simpa using this
   | succ k =>
    have := i1 k o' (by simpa using hk) w hg fun j hj hn => hr j (by omega) hn
    rw [show m + 1 + k = m + (k + 1) from by omega] at this;have e : fillD (fun j => decide (j < m + (k + 1))) V (o :: r) m a = fillD (fun j => decide (j < m + (k + 1))) V r (m + 1) (a.put o.dst (V m)) := by
     show fillD _ V r (m + 1) _ = _;rw [if_pos (by simp)]
    rw [e];exact this
  ·have := i2 w hg fun j hj hl => hr j (by simp; omega) hl
   exact this
def barB (ops : Array Oper) (st bar : Nat -> Bool) : Bool :=
 (List.range ops.size).all fun i => !bar i || (List.range ops.size).all fun j =>
  (j == i || ((waits ops.toList []).getD i 0).testBit j || ((waits ops.toList []).getD j 0).testBit i || st j) &&
  (st j || !((waits ops.toList []).getD i 0).testBit j || (List.range ops.size).all fun k => match ops[k]? with
   | none => true
   | some ok => !uses ok j || k == i || ((waits ops.toList []).getD i 0).testBit k)
def aliveB (ops : Array Oper) (st bar : Nat -> Bool) (j : Nat) : Bool := st j || (List.range ops.size).all fun i => !bar i || !((waits ops.toList []).getD i 0).testBit j
theorem inv2_any {l : List Oper} {G : World -> World -> Prop} {T : Nat -> World -> World -> Prop} {w0 : World} {R : Nat -> Value -> World -> Prop} {K : Act -> World -> Prop} {a0 : Act} {st bar : Nat -> Bool} (hB : invB l.toArray = true) (hK : barB l.toArray st bar = true)
  (Gt : ∀ w w1 w2, G w w1 -> G w1 w2 -> G w w2) (TG : ∀ i w w', G w0 w -> T i w w' -> G w w') (mono : ∀ i j v w w', bar i = false -> G w0 w -> T i w w' -> R j v w -> R j v w')
  (monoS : ∀ j v w w', st j = true -> G w0 w -> G w w' -> R j v w -> R j v w')
  (h : invList2 P l.toArray G T (aliveB l.toArray st bar) w0 R K l [] a0) :
  ∀ (fuel : Nat) (listed : Array Bool) (V : Nat -> Value) (w : World), listed.size = l.length -> Closed l.toArray listed -> G w0 w ->
  (∀ j, listed.getD j false = true -> (∀ i, bar i = true -> listed.getD i false = true -> ((waits l.toArray.toList []).getD i 0).testBit j = true -> st j = true) -> R j (V j) w) ->
  (rem l.toArray listed).length <= fuel -> wpAny P .any l.toArray (Only K) fuel listed (fillD (fun j => listed.getD j false) V l 0 a0) w := by
 unfold invB at hB;simp only [Bool.and_eq_true, List.all_eq_true, List.mem_range] at hB;obtain ⟨hsel, hB⟩ := hB;have hB' : ∀ i oi, l.toArray[i]? = some oi -> _ := fun i oi hi => by
  have := hB i (Array.getElem?_eq_some_iff.1 hi).1;simp only [hi, Bool.and_eq_true, List.all_eq_true, List.mem_range] at this;exact this
 have hback : ∀ i oi, l.toArray[i]? = some oi -> ∀ e ∈ oi.after, Region.binds .any e = true -> e.on < i := fun i oi hi e he hb => by
  have := (hB' i oi hi).1 e (by simpa using he);simpa [hb] using this
 have htr : Truth l.toArray (waits l.toArray.toList []) := waits_truth hback l.toArray.toList [] (fun j => by simp) (fun i t hi => by simp at hi);have hlen : (waits l.toArray.toList []).length = l.length := by rw [waits_length]; simp
 have hanc : ∀ listed : Array Bool, Closed l.toArray listed -> ∀ i t, i < l.length -> listed.getD i false = true -> ((waits l.toArray.toList []).getD i 0).testBit t = true -> listed.getD t false = true := fun listed hcl i t hi hli hb => by
  have hlt : i < l.toArray.size := by simpa using hi
  exact htr.listed hcl i _ t (by rw [hlen]; exact hi) (Array.getElem?_eq_getElem hlt) (hcl i _ (Array.getElem?_eq_getElem hlt) hli) hb
 unfold barB at hK;simp only [List.all_eq_true, List.mem_range] at hK;have hK1 : ∀ i, i < l.length -> bar i = true -> ∀ j, j < l.length -> j = i ∨ ((waits l.toArray.toList []).getD i 0).testBit j = true ∨ ((waits l.toArray.toList []).getD j 0).testBit i = true ∨ st j = true := fun i hi hb j hj => by
  have := hK i (by simpa using hi);rw [hb, Bool.not_true, Bool.false_or, List.all_eq_true] at this;have := this j (List.mem_range.2 (by simpa using hj));simp only [Bool.and_eq_true, Bool.or_eq_true, beq_iff_eq] at this;rcases this.1 with ((h | h) | h) | h
  ·exact .inl h
  ·exact .inr (.inl h)
  ·exact .inr (.inr (.inl h))
  ·exact .inr (.inr (.inr h))
 have hK2 : ∀ i, i < l.length -> bar i = true -> ∀ j, j < l.length -> ((waits l.toArray.toList []).getD i 0).testBit j = true -> st j = false -> ∀ k o, l.toArray[k]? = some o -> uses o j = true -> k = i ∨ ((waits l.toArray.toList []).getD i 0).testBit k = true := fun i hi hb j hj ht hs k o hk hn => by
  have := hK i (by simpa using hi);rw [hb, Bool.not_true, Bool.false_or, List.all_eq_true] at this;have := this j (List.mem_range.2 (by simpa using hj));simp only [Bool.and_eq_true, Bool.or_eq_true, hs, ht, Bool.not_true, List.all_eq_true] at this;have h3 := this.2;simp at h3;have hkl : k < l.length := by have := (Array.getElem?_eq_some_iff.1 hk).1; simpa using this
  have h4 := h3 k hkl;have hk' : l[k]? = some o := by simpa using hk
  simp [hk', hn] at h4;rcases h4 with h | h
  ·exact .inl h
  ·exact .inr h
 have hall : ∀ listed : Array Bool, listed.size = l.length -> Region.ready .any l.toArray listed = [] -> ∀ i, i < l.length -> listed.getD i false = true := fun listed hs hr i hi =>
  rem_nil hback listed (by simpa using hs) hr i (by simpa using hi)
 have hend : ∀ (listed : Array Bool) (V : Nat -> Value) (w : World), (∀ i, i < l.length -> listed.getD i false = true) -> G w0 w -> (∀ j, listed.getD j false = true -> (∀ i, bar i = true -> listed.getD i false = true -> ((waits l.toArray.toList []).getD i 0).testBit j = true -> st j = true) -> R j (V j) w) ->
   listed.size = l.length -> K (fillD (fun j => listed.getD j false) V l 0 a0) w := fun listed V w hd hg hr hsz => by
  have := (inv2_at V l 0 a0 h).2 w hg fun j hj hl => hr j (hd j (by simpa using hj)) fun i hb hi ht => by
   unfold aliveB at hl;rw [Bool.or_eq_true] at hl;rcases hl with hl | hl
   ·exact hl
   ·rw [List.all_eq_true] at hl
    have hil : i < l.length := by
     rcases Nat.lt_or_ge i listed.size with h | h
     ·omega
     ·simp [Nat.not_lt.2 h] at hi
    have := hl i (List.mem_range.2 (by simpa using hil));rw [hb, ht] at this; simp at this
  rw [fill_congr _ (fun _ => true) V V l 0 a0 fun j _ hj => ⟨hd j (by simpa using hj), fun _ => rfl⟩];exact this
 intro fuel
 induction fuel with
 | zero =>
  intro listed V w hs hcl hg hr hf;have hnil : rem l.toArray listed = [] := List.eq_nil_of_length_eq_zero (by omega);have hd : ∀ i, i < l.length -> listed.getD i false = true := fun i hi => by
   by_cases hd : listed.getD i false = true
   ·exact hd
   ·exfalso
    have : i ∈ rem l.toArray listed := mem_rem.2 ⟨by simpa using hi, by
     have : i < listed.size := by omega
     simp [this] at hd ⊢; exact hd⟩
    rw [hnil] at this;cases this
  refine ⟨?_, hend listed V w hd hg hr hs⟩;cases hrd : Region.ready .any l.toArray listed with
  | nil => rfl
  | cons i q =>
   have hi : i ∈ Region.ready .any l.toArray listed := by rw [hrd]; simp
   obtain ⟨hun, o, ho, _⟩ := mem_ready.1 hi;have : i ∈ rem l.toArray listed := mem_rem.2 ⟨(Array.getElem?_eq_some_iff.1 ho).1, hun⟩;rw [hnil] at this;cases this
 | succ fuel ih =>
  intro listed V w hs hcl hg hr hf;refine ⟨fun hrd => hend listed V w (hall listed hs hrd) hg hr hs, fun i hi => ?_⟩;obtain ⟨hun, o, ho, hdone⟩ := mem_ready.1 hi;have hlt : i < l.toArray.size := (Array.getElem?_eq_some_iff.1 ho).1;have hltl : i < l.length := by simpa using hlt
  have hlis : i < listed.size := by omega
  have hun' : listed.getD i false = false := by simp [hlis] at hun ⊢; exact hun
  have hol : l[i]? = some o := by simpa using ho
  have hin : ∀ q, listed.getD q false = true -> q < l.length := fun q hq => by
   rcases Nat.lt_or_ge q listed.size with h | h
   ·omega
   ·simp [Nat.not_lt.2 h] at hq
  have hst := (inv2_at V l 0 a0 h).1 i o hol w hg fun j hj hn => by
   have hdj : listed.getD j false = true := by
    have hn' := uses_needs hn;unfold needs at hn';simp only [List.any_eq_true, Bool.and_eq_true, beq_iff_eq] at hn';obtain ⟨e, he, hb, rfl⟩ := hn';exact hdone e (by simpa using he) hb
   refine hr j hdj fun i' hb' hl' ht' => ?_
   cases hsj : st j with
   | true => rfl
   | false =>
    exfalso;rcases hK2 i' (hin i' hl') hb' j (hin j hdj) ht' hsj i o ho hn with h | h
    ·rw [<- h, hun'] at hl'; cases hl'
    ·have := hanc listed hcl i' i (hin i' hl') hl' h
     rw [hun'] at this; cases this
  rw [Nat.zero_add] at hst;have hsel' : ∀ cs b, o.op ≠ .select cs b := by
   intro cs b hc;unfold Region.noSelect at hsel;simp only [Array.all_eq_true] at hsel;have := hsel i (by simpa using hlt);rw [(Array.getElem?_eq_some_iff.1 ho).2] at this;rw [hc] at this;simp at this
  have hsv := stepV_congr (a := fillD (fun j => listed.getD j false) V l 0 a0) hsel' (by rw [fill_size, fill_size]) (fun d hd => ?_) (stepV_of_list hst)
  ·refine stepV_wpOp ho ?_ hsv
   rintro v w' ⟨hgw, hR⟩;rw [fill_take (fun j => listed.getD j false) V v l 0 a0 i o hol (by rw [Nat.zero_add]; exact hun') fun q o' hq hne d hd1 hd2 => by
    have h1 := (hB' i o ho).2 q (by have := (List.getElem?_eq_some_iff.1 hq).1; simpa using this);have hq' : l.toArray[q]? = some o' := by simpa using hq
    simp [hne, hq', hd2, hd1] at h1]
   have hcl' := hcl.set hi;have e : (fun j => if j = 0 + i then true else listed.getD j false) = fun j => (listed.setIfInBounds i true).getD j false := by
    funext j
    rw [Nat.zero_add];by_cases hj : j = i
    ·subst hj; simp [hlis]
    ·rw [if_neg hj, getD_set_ne false (fun e => hj e.symm)]
   rw [e];refine ih _ _ w' (by simpa using hs) hcl' (Gt _ _ _ hg (TG i _ _ hg hgw)) (fun j hj hal => ?_) ?_
   ·rw [Nat.zero_add]
    by_cases hji : j = i
    ·subst hji; rw [if_pos rfl]; exact hR
    ·rw [if_neg hji]
     rw [getD_set_ne false (fun e => hji e.symm)] at hj;have hold := hr j hj fun i' hb' hl' ht' => hal i' hb' (by
      by_cases h : i' = i
      ·subst h; simp [hlis]
      ·rw [getD_set_ne false (fun e => h e.symm)]; exact hl') ht'
     cases hbi : bar i with
     | false => exact mono i j _ w w' hbi hg hgw hold
     | true =>
      refine monoS j _ w w' ?_ hg (TG i _ _ hg hgw) hold;rcases hK1 i hltl hbi j (hin j hj) with h | h | h | h
      ·exact absurd h hji
      ·exact hal i hbi (by simp [hlis]) h
      ·have := hanc listed hcl j i (hin j hj) hj h
       rw [hun'] at this; cases this
      ·exact h
   ·obtain ⟨τ, ρ, e1, e2, _⟩ := rem_split (by simpa using hs) (mem_rem.2 ⟨hlt, hun⟩)
    rw [e2];rw [e1] at hf;simp only [List.length_append, List.length_cons] at hf ⊢;omega
  ·refine fill_at _ _ V d l 0 a0 a0 rfl rfl fun q o' hq hod => ?_
   rw [Nat.zero_add];have hq' : l.toArray[q]? = some o' := by simpa using hq
   have hql : q < l.length := (List.getElem?_eq_some_iff.1 hq).1;by_cases hqi : q = i
   ·subst hqi; rw [hun']; simp
   ·have h1 := (hB' i o ho).2 q (by simpa using hql)
    have hdc : (o.looksAt l.toArray).contains d = true := by simpa using hd
    simp only [hqi, beq_iff_eq, hq', Option.bind_some, hod, hdc, Bool.not_true, Bool.false_or, Bool.or_eq_true, Bool.and_eq_true, decide_eq_true_eq, false_or] at h1;rcases h1.2 with ⟨h2, h3⟩ | ⟨h2, h3⟩
    ·rw [decide_eq_true h2]
     unfold needs at h3;simp only [List.any_eq_true, Bool.and_eq_true, beq_iff_eq] at h3;obtain ⟨e, he, hb, rfl⟩ := h3;exact hdone e (by simpa using he) hb
    ·rw [decide_eq_false (by omega)]
     by_cases hqd : listed.getD q false = true
     ·exfalso
      have := htr.listed hcl q o' i (by omega) hq' (fun e he hb => hcl q o' hq' hqd e he hb) h3;rw [hun'] at this;cases this
     ·simpa using hqd
abbrev SP := {p : Value -> World -> Prop // ∀ v w w', Below w.heap.size w w' -> p v w -> p v w'}
abbrev Want := Sum Value SP
def Want.holds : Want -> Value -> World -> Prop
 | .inl u, v, _ => v = u
 | .inr p, v, w => p.1 v w
def Want.fixed : Want -> Bool
 | .inl _ => true
 | .inr _ => false
def wantAt (L : List Want) (j : Nat) : Want := L.getD j (.inl undef)
def Turns (B : Nat) (bar : List Nat) (i : Nat) (x y : World) : Prop := match bar.contains i with
 | true => Below B x y
 | false => Below x.heap.size x y
theorem wp_region_inw {id : Nat} {l : List Oper} {Q : Exit -> Act -> World -> Prop} {a : Act} {w : World} (L : List Want) (bar : List Nat) (hm : P.follows .mixedOrders = true) (hB : invB l.toArray = true)
  (hK : barB l.toArray (fun j => (wantAt L j).fixed) (fun i => bar.contains i) = true)
  (h : invList2 P l.toArray (Below w.heap.size) (Turns w.heap.size bar) (aliveB l.toArray (fun j => (wantAt L j).fixed) (fun i => bar.contains i)) w.drew (fun j v w => (wantAt L j).holds v w) (Q .normal) l [] a) : (Code.region id l.toArray true).wp P Q a w := by
 refine Code.wp_mono (Q := Only (Q .normal)) (fun e a w hq => by cases e <;> first | exact hq | exact hq.elim) ?_;refine wp_region_any hm ?_;have hsz : ∀ {x : World}, Below w.heap.size w.drew x -> w.heap.size <= x.heap.size := fun hx => hx.size
 have h0 := inv2_any (w0 := w.drew) (R := fun j v w => (wantAt L j).holds v w) hB hK (fun _ _ _ h1 h2 => h1.trans h2) (fun i x y hg ht => by
   unfold Turns at ht
   split at ht
   ·exact ht
   ·exact ht.mono (hsz hg)) (fun i j v x y hbi hg ht hr => by
   unfold Turns at ht;rw [hbi] at ht;cases e : wantAt L j with
   | inl u => rw [e] at hr; exact hr
   | inr p => rw [e] at hr; exact p.2 v x y ht hr) (fun j v x y hs hg ht hr => by
   cases e : wantAt L j with
   | inl u => rw [e] at hr; exact hr
   | inr p => rw [e] at hs; cases hs) h l.toArray.size (Array.replicate l.toArray.size false) (fun _ => undef) w.drew (by simp) (fun j oj _ hl => by rw [getD_replicate0] at hl; cases hl) ((Below.refl _ _)) (fun j hj => by rw [getD_replicate0] at hj; cases hj) ?_
 ·rw [fill_none] at h0
  ·exact h0
  ·intro j _; exact getD_replicate0 _ _
 ·refine Nat.le_trans (List.length_filter_le _ _) ?_
  simp
theorem inw_cons {G : World -> World -> Prop} {T : Nat -> World -> World -> Prop} {alive : Nat -> Bool} {w0 : World} {R : Nat -> Value -> World -> Prop} {K : Act -> World -> Prop} {o : Oper} {r : List Oper} {vs : List Value} {a : Act}
 (h1 : ∀ w, G w0 w -> (∀ j, j < vs.length -> uses o j = true -> R j (vs.getD j undef) w) -> wpList P ops (Leaves a o.dst fun v w' => T vs.length w w' /\ R vs.length v w') [o] a w)
 (h2 : ∀ v, invList2 P ops G T alive w0 R K r (vs ++ [v]) (a.put o.dst v)) : invList2 P ops G T alive w0 R K (o :: r) vs a := ⟨h1, h2⟩
theorem inw_done {G : World -> World -> Prop} {T : Nat -> World -> World -> Prop} {alive : Nat -> Bool} {w0 : World} {R : Nat -> Value -> World -> Prop} {K : Act -> World -> Prop} {vs : List Value} {a : Act}
 (h : ∀ w, G w0 w -> (∀ j, j < vs.length -> alive j = true -> R j (vs.getD j undef) w) -> K a w) : invList2 P ops G T alive w0 R K [] vs a := h
end
end
section
open Go.RowKit Go.Lib Wd
theorem nadd_in (a b : Int) (h1 : -4611686018427387904 <= a) (h2 : a <= 4611686018427387903) (h3 : -4611686018427387904 <= b) (h4 : b <= 4611686018427387903) (w : World) :
  Calls Tryz.prog 105 #[.int .i64 a, .int .i64 b] w fun e w' => e = .returned (.tuple #[.int .i64 (a + b), .bool true]) /\ w' = w := by
 rcases (show b < 0 ∨ b = 0 ∨ 0 < b by omega) with hb | hb | hb
 ·have q1 : decide (a < a + b) = false := decide_eq_false (by omega)
  have q2 : decide (0 < b) = false := decide_eq_false (by omega)
  go_enter Tryz.func105, Tryz.ntmps105
  go_wp2;go_ret2;exact ⟨rfl, rfl⟩
 ·subst hb
  go_enter Tryz.func105, Tryz.ntmps105
  go_wp2;go_ret2;exact ⟨by simp, rfl⟩
 ·have q1 : decide (a < a + b) = true := decide_eq_true (by omega)
  have q2 : decide (0 < b) = true := decide_eq_true (by omega)
  go_enter Tryz.func105, Tryz.ntmps105
  go_wp2;go_ret2;exact ⟨rfl, rfl⟩
theorem nsub_in (a b : Int) (h1 : -4611686018427387904 <= a) (h2 : a <= 4611686018427387903) (h3 : -4611686018427387904 <= b) (h4 : b <= 4611686018427387903) (w : World) :
  Calls Tryz.prog 182 #[.int .i64 a, .int .i64 b] w fun e w' => e = .returned (.tuple #[.int .i64 (a - b), .bool true]) /\ w' = w := by
 rcases (show b < 0 ∨ b = 0 ∨ 0 < b by omega) with hb | hb | hb
 ·have q1 : decide (a - b < a) = false := decide_eq_false (by omega)
  have q2 : decide (0 < b) = false := decide_eq_false (by omega)
  go_enter Tryz.func182, Tryz.ntmps182
  go_wp2;go_ret2;exact ⟨rfl, rfl⟩
 ·subst hb
  go_enter Tryz.func182, Tryz.ntmps182
  go_wp2;go_ret2;exact ⟨by simp, rfl⟩
 ·have q1 : decide (a - b < a) = true := decide_eq_true (by omega)
  have q2 : decide (0 < b) = true := decide_eq_true (by omega)
  go_enter Tryz.func182, Tryz.ntmps182
  go_wp2;go_ret2;exact ⟨rfl, rfl⟩
theorem within_any (a m : Int) (h1 : 0 <= m) (h2 : m <= 4611686018427387903) (w : World) :
  Calls Tryz.prog 116 #[.int .i64 a, .int .i64 m] w fun e w' => e = .returned (.bool (decide (-m <= a) && decide (a <= m))) /\ w' = w := by
 have HF : Hid ((decide (-m <= a) && decide (a <= m)) = (decide (-m <= a) && decide (a <= m))) := rfl;rcases (show a < -m ∨ (-m <= a /\ m < a) ∨ (-m <= a /\ a <= m) by omega) with h | ⟨h, h3⟩ | ⟨h, h3⟩
 ·have hr : (decide (-m <= a) && decide (a <= m)) = false := by simp; omega
  have HR := Lib.hid hr;rw [hr];clear hr HF
  go_enter Tryz.func116, Tryz.ntmps116
  go_wp2;go_ret;exact ⟨rfl, rfl⟩
 ·have hr : (decide (-m <= a) && decide (a <= m)) = false := by simp; omega
  rw [hr];clear hr HF
  go_enter Tryz.func116, Tryz.ntmps116
  go_wp2;go_ret;exact ⟨rfl, rfl⟩
 ·have hr : (decide (-m <= a) && decide (a <= m)) = true := by simp; omega
  have q1 : (a != -9223372036854775808) = true := by simp; omega
  rw [hr];clear hr HF
  go_enter Tryz.func116, Tryz.ntmps116
  go_wp2;go_ret;exact ⟨rfl, rfl⟩
theorem floor_nums {a d : Int} (hd : 0 < d) : (a.tmod d < 0 /\ a.tdiv d - 1 = a / d /\ a.tmod d + d = a % d /\ 0 <= a.tmod d + d /\ a.tmod d + d < d) ∨ (0 <= a.tmod d /\ a.tdiv d = a / d /\ a.tmod d = a % d) := by
 have h1 := Int.mul_tdiv_add_tmod a d;have h2 := Int.tmod_lt_of_pos a hd;have h3 := Int.lt_tmod_of_pos a hd;rcases Int.lt_or_le (a.tmod d) 0 with h | h
 ·left
  have := (Int.ediv_emod_unique (a := a) (b := d) (r := a.tmod d + d) (q := a.tdiv d - 1) hd).2 ⟨by rw [Int.mul_sub]; omega, by omega, by omega⟩;exact ⟨h, this.1.symm, this.2.symm, by omega, by omega⟩
 ·right
  have := (Int.ediv_emod_unique (a := a) (b := d) (r := a.tmod d) (q := a.tdiv d) hd).2 ⟨by omega, by omega, by omega⟩;exact ⟨h, this.1.symm, this.2.symm⟩
theorem floor_any (a d : Int) (hd : 0 < d) (hd2 : d <= 4611686018427387903) (h1 : -4611686018427387904 <= a) (h2 : a <= 4611686018427387903) (w : World) :
  Calls Tryz.prog 173 #[.int .i64 a, .int .i64 d] w fun e w' => e = .returned (.tuple #[.int .i64 (a / d), .int .i64 (a % d), .bool true]) /\ ∃ n, w' = w.drewN n := by
 have hb1 := Int.ediv_mul_le a (show d ≠ 0 by omega);have q0 : d ≠ 0 := by omega
 have q9 : d ≠ -1 := by omega
 have hq : -4611686018427387905 <= a.tdiv d /\ a.tdiv d <= 4611686018427387905 := by
  have := Int.natAbs_tdiv_le_natAbs a d;omega
 obtain ⟨hq1, hq2⟩ := hq;rcases floor_nums (a := a) hd with ⟨k1, k2, k3, k4, k5⟩ | ⟨k1, k2, k3⟩
 ·rw [<- k2, <- k3]
  clear k2 k3 hb1;generalize hx : a.tdiv d = x at *;generalize hy : a.tmod d = y at *
  go_enter Tryz.func173, Tryz.ntmps173
  go_upto_region 3 with (fail)
  go_quiet (fail)
  go_wp2
  go_ret3
  exact ⟨rfl, _, rfl⟩
 ·rw [<- k2, <- k3]
  clear k2 k3 hb1;generalize hx : a.tdiv d = x at *;generalize hy : a.tmod d = y at *
  go_enter Tryz.func173, Tryz.ntmps173
  go_upto_region 3 with (fail)
  go_quiet (fail)
  go_wp2
  go_ret3
  exact ⟨rfl, _, rfl⟩
def hW (A : Int) : Int := A / 18446744073709551616
def lW (A : Int) : Int := A % 18446744073709551616
theorem times_in (a b : Int) (ha : -2305843009213693952 <= a /\ a <= 2305843009213693952) (hb : -2305843009213693952 <= b /\ b <= 2305843009213693952) (w : World) :
  Calls Tryz.prog 111 #[.int .i64 a, .int .i64 b] w fun e w' => e = .returned (.agg #[.int .i64 (hW (a * b)), .int .u64 (lW (a * b))]) /\ Below w.heap.size w w' := by
 obtain ⟨x, hx⟩ : ∃ x : Nat, (a % 18446744073709551616).toNat = x := ⟨_, rfl⟩;obtain ⟨y, hy⟩ : ∃ x : Nat, (b % 18446744073709551616).toNat = x := ⟨_, rfl⟩;have hx1 : (x : Int) = a % 18446744073709551616 := by omega
 have hy1 : (y : Int) = b % 18446744073709551616 := by omega
 have HM : Hid (∀ w : World, _) := fun w => mul64_any x y (by omega) (by omega) w
 have ea : IntKind.u64.wrap a = (x : Int) := by rw [IntKind.wrap_u64, hx1]
 have eb : IntKind.u64.wrap b = (y : Int) := by rw [IntKind.wrap_u64, hy1]
 have hp : -5316911983139663491615228241121378304 <= a * b /\ a * b <= 5316911983139663491615228241121378304 := by
  have h1 : (a * b).natAbs <= 2305843009213693952 * 2305843009213693952 := by rw [Int.natAbs_mul]; exact Nat.mul_le_mul (by omega) (by omega)
  omega
 obtain ⟨n, hn⟩ : ∃ n : Nat, x * y = n := ⟨_, rfl⟩;have hn1 : (n : Int) = (a % 18446744073709551616) * (b % 18446744073709551616) := by rw [<- hn, Int.natCast_mul, hx1, hy1]
 rw [hn] at HM;obtain ⟨P, hP⟩ : ∃ P : Int, a * b = P := ⟨_, rfl⟩;rw [hP] at hp ⊢;have key : ∀ H L : Int, H = hW P -> L = lW P -> Hid (H = hW P /\ L = lW P) := fun _ _ h1 h2 => ⟨h1, h2⟩
 by_cases h1 : a < 0 <;> by_cases h2 : b < 0
 ·have q1 : a % 18446744073709551616 = a + 18446744073709551616 := by omega
  have q2 : b % 18446744073709551616 = b + 18446744073709551616 := by omega
  have hn2 : (n : Int) = P + 18446744073709551616 * (a + b) + 340282366920938463463374607431768211456 := by rw [hn1, q1, q2, <- hP, Int.add_mul, Int.mul_add, Int.mul_add]; omega
  obtain ⟨H, hH⟩ : ∃ H : Nat, n / 18446744073709551616 = H := ⟨_, rfl⟩;obtain ⟨L, hL⟩ : ∃ H : Nat, n % 18446744073709551616 = H := ⟨_, rfl⟩;rw [hH, hL] at HM;have e0 : IntKind.i64.wrap (H : Int) = hW P + a + b := by rw [IntKind.wrap_i64]; unfold hW; omega
  have e1 : IntKind.i64.wrap (hW P + a + b - b) = hW P + a := by rw [IntKind.wrap_i64]; unfold hW; omega
  have e2 : IntKind.i64.wrap (hW P + a - a) = hW P := by rw [IntKind.wrap_i64]; unfold hW; omega
  have HE : Hid ((L : Int) = lW P) := by show _ = _; unfold lW; omega
  clear hn hn1 hn2 q1 q2 hx hy hx1 hy1 hp hP ha hb hH hL key;generalize hW P + a + b = A0 at *;generalize hW P + a = A1 at *;generalize hW P = A2 at *
  go_enter Tryz.func111, Tryz.ntmps111
  go_wp2_with (go_at_call 39; refine (HM.out _).mono ?_; rintro e w' ⟨rfl, rfl⟩)
  exact bodyPost_ret (v := .agg #[.int .i64 A2, .int .u64 L]) (by simp [results, Tryz.results111, go_sem]) rfl ⟨by rw [HE.out], (Below.refl _ _).alloc (Nat.le_refl _) _⟩
 ·have q1 : a % 18446744073709551616 = a + 18446744073709551616 := by omega
  have q2 : b % 18446744073709551616 = b := by omega
  have hn2 : (n : Int) = P + 18446744073709551616 * b := by rw [hn1, q1, q2, <- hP, Int.add_mul]
  have qb : decide (b < 0) = false := by simpa using h2
  obtain ⟨H, hH⟩ : ∃ H : Nat, n / 18446744073709551616 = H := ⟨_, rfl⟩;obtain ⟨L, hL⟩ : ∃ H : Nat, n % 18446744073709551616 = H := ⟨_, rfl⟩;rw [hH, hL] at HM;have e0 : IntKind.i64.wrap (H : Int) = hW P + b := by rw [IntKind.wrap_i64]; unfold hW; omega
  have e1 : IntKind.i64.wrap (hW P + b - b) = hW P := by rw [IntKind.wrap_i64]; unfold hW; omega
  have HE : Hid ((L : Int) = lW P) := by show _ = _; unfold lW; omega
  clear hn hn1 hn2 q1 q2 hx hy hx1 hy1 hp hP ha hb hH hL key;generalize hW P + b = A1 at *;generalize hW P = A2 at *
  go_enter Tryz.func111, Tryz.ntmps111
  go_wp2_with (go_at_call 39; refine (HM.out _).mono ?_; rintro e w' ⟨rfl, rfl⟩)
  exact bodyPost_ret (v := .agg #[.int .i64 A2, .int .u64 L]) (by simp [results, Tryz.results111, go_sem]) rfl ⟨by rw [HE.out], (Below.refl _ _).alloc (Nat.le_refl _) _⟩
 ·have q1 : a % 18446744073709551616 = a := by omega
  have q2 : b % 18446744073709551616 = b + 18446744073709551616 := by omega
  have hn2 : (n : Int) = P + 18446744073709551616 * a := by rw [hn1, q1, q2, <- hP, Int.mul_add, Int.mul_comm a 18446744073709551616]
  have qa : decide (a < 0) = false := by simpa using h1
  obtain ⟨H, hH⟩ : ∃ H : Nat, n / 18446744073709551616 = H := ⟨_, rfl⟩;obtain ⟨L, hL⟩ : ∃ H : Nat, n % 18446744073709551616 = H := ⟨_, rfl⟩;rw [hH, hL] at HM;have e0 : IntKind.i64.wrap (H : Int) = hW P + a := by rw [IntKind.wrap_i64]; unfold hW; omega
  have e1 : IntKind.i64.wrap (hW P + a - a) = hW P := by rw [IntKind.wrap_i64]; unfold hW; omega
  have HE : Hid ((L : Int) = lW P) := by show _ = _; unfold lW; omega
  clear hn hn1 hn2 q1 q2 hx hy hx1 hy1 hp hP ha hb hH hL key;generalize hW P + a = A1 at *;generalize hW P = A2 at *
  go_enter Tryz.func111, Tryz.ntmps111
  go_wp2_with (go_at_call 39; refine (HM.out _).mono ?_; rintro e w' ⟨rfl, rfl⟩)
  exact bodyPost_ret (v := .agg #[.int .i64 A2, .int .u64 L]) (by simp [results, Tryz.results111, go_sem]) rfl ⟨by rw [HE.out], (Below.refl _ _).alloc (Nat.le_refl _) _⟩
 ·have q1 : a % 18446744073709551616 = a := by omega
  have q2 : b % 18446744073709551616 = b := by omega
  have hn2 : (n : Int) = P := by rw [hn1, q1, q2, hP]
  have qa : decide (a < 0) = false := by simpa using h1
  have qb : decide (b < 0) = false := by simpa using h2
  obtain ⟨H, hH⟩ : ∃ H : Nat, n / 18446744073709551616 = H := ⟨_, rfl⟩;obtain ⟨L, hL⟩ : ∃ H : Nat, n % 18446744073709551616 = H := ⟨_, rfl⟩;rw [hH, hL] at HM;have e0 : IntKind.i64.wrap (H : Int) = hW P := by rw [IntKind.wrap_i64]; unfold hW; omega
  have HE : Hid ((L : Int) = lW P) := by show _ = _; unfold lW; omega
  clear hn hn1 hn2 q1 q2 hx hy hx1 hy1 hp hP ha hb hH hL key;generalize hW P = A2 at *
  go_enter Tryz.func111, Tryz.ntmps111
  go_wp2_with (go_at_call 39; refine (HM.out _).mono ?_; rintro e w' ⟨rfl, rfl⟩)
  exact bodyPost_ret (v := .agg #[.int .i64 A2, .int .u64 L]) (by simp [results, Tryz.results111, go_sem]) rfl ⟨by rw [HE.out], (Below.refl _ _).alloc (Nat.le_refl _) _⟩
theorem sub64_run (x y c : Nat) (hc : c <= 1) (w : World) :
  (callFunc 161 #[.int .u64 x, .int .u64 y, .int .u64 c]).run Tryz.prog w =
   .ok (.value (.tuple #[.int .u64 (((x + 18446744073709551616 - y - c) % 18446744073709551616 : Nat) : Int), .int .u64 ((if x < y + c then 1 else 0 : Nat) : Int)])) w := by
 rw [run_callFunc_extern Tryz.func161 (by kernel_rfl) (by kernel_rfl) (by kernel_rfl) (e := sub64Entry) (by kernel_rfl), run_sub64 x y c hc]
 rfl
theorem wplus_in (A B : Int) (ha : -10633823966279326983230456482242756608 <= A /\ A <= 10633823966279326983230456482242756608) (hb : -10633823966279326983230456482242756608 <= B /\ B <= 10633823966279326983230456482242756608) (w : World) :
  Calls Tryz.prog 110 #[.agg #[.int .i64 (hW A), .int .u64 (lW A)], .agg #[.int .i64 (hW B), .int .u64 (lW B)]] w fun e w' => e = .returned (.agg #[.int .i64 (hW (A + B)), .int .u64 (lW (A + B))]) /\ Below w.heap.size w w' := by
 obtain ⟨x, hx⟩ : ∃ x : Nat, (lW A).toNat = x := ⟨_, rfl⟩;obtain ⟨y, hy⟩ : ∃ x : Nat, (lW B).toNat = x := ⟨_, rfl⟩;have hx1 : lW A = (x : Int) := by unfold lW at *; omega
 have hy1 : lW B = (y : Int) := by unfold lW at *; omega
 rw [hx1, hy1];obtain ⟨c, hc⟩ : ∃ c, (x + y + 0) / 18446744073709551616 = c := ⟨_, rfl⟩;obtain ⟨l, hl⟩ : ∃ c, (x + y + 0) % 18446744073709551616 = c := ⟨_, rfl⟩;have A1 : ∀ w, (callFunc 119 #[.int .u64 x, .int .u64 y, .int .u64 0]).run Tryz.prog w = .ok (.value (.tuple #[.int .u64 (l : Nat), .int .u64 (c : Nat)])) w := fun w => by
  have := add64_run x y 0 (by omega) w;rw [hc, hl] at this;exact this
 have e0 : IntKind.i64.wrap (hW A + hW B) = hW A + hW B := by rw [IntKind.wrap_i64]; unfold hW; omega
 have e1 : IntKind.i64.wrap (c : Int) = c := by rw [IntKind.wrap_i64]; unfold lW at hx1 hy1; omega
 have e2 : IntKind.i64.wrap (hW A + hW B + c) = hW (A + B) := by rw [IntKind.wrap_i64]; unfold hW; unfold lW at hx1 hy1; omega
 have HL : Hid (lW (A + B) = (l : Int)) := by show _ = _; unfold lW at *; omega
 clear hx hy hx1 hy1 hc hl ha hb;generalize hW (A + B) = h3 at *;generalize hW A = h1 at *;generalize hW B = h2 at *;generalize lW (A + B) = l3 at *
 go_enter Tryz.func110, Tryz.ntmps110
 go_wp2;exact bodyPost_ret (v := .agg #[.int .i64 h3, .int .u64 l]) (by simp [results, Tryz.results110, go_sem]) rfl ⟨by rw [HL.out], (((Below.refl _ _).alloc (Nat.le_refl _) _).alloc (by simp) _).alloc (by simp; omega) _⟩
theorem wminus_in (A B : Int) (ha : -10633823966279326983230456482242756608 <= A /\ A <= 10633823966279326983230456482242756608) (hb : -10633823966279326983230456482242756608 <= B /\ B <= 10633823966279326983230456482242756608) (w : World) :
  Calls Tryz.prog 112 #[.agg #[.int .i64 (hW A), .int .u64 (lW A)], .agg #[.int .i64 (hW B), .int .u64 (lW B)]] w fun e w' => e = .returned (.agg #[.int .i64 (hW (A - B)), .int .u64 (lW (A - B))]) /\ Below w.heap.size w w' := by
 obtain ⟨x, hx⟩ : ∃ x : Nat, (lW A).toNat = x := ⟨_, rfl⟩;obtain ⟨y, hy⟩ : ∃ x : Nat, (lW B).toNat = x := ⟨_, rfl⟩;have hx1 : lW A = (x : Int) := by unfold lW at *; omega
 have hy1 : lW B = (y : Int) := by unfold lW at *; omega
 rw [hx1, hy1];obtain ⟨c, hc⟩ : ∃ c : Nat, (if x < y + 0 then 1 else 0) = c := ⟨_, rfl⟩;obtain ⟨l, hl⟩ : ∃ c, (x + 18446744073709551616 - y - 0) % 18446744073709551616 = c := ⟨_, rfl⟩;have A1 : ∀ w, (callFunc 161 #[.int .u64 x, .int .u64 y, .int .u64 0]).run Tryz.prog w = .ok (.value (.tuple #[.int .u64 (l : Nat), .int .u64 (c : Nat)])) w := fun w => by
  have := sub64_run x y 0 (by omega) w;rw [hc, hl] at this;exact this
 have hc2 : (x < y /\ c = 1) ∨ (y <= x /\ c = 0) := by split at hc <;> omega
 have e0 : IntKind.i64.wrap (hW A - hW B) = hW A - hW B := by rw [IntKind.wrap_i64]; unfold hW; omega
 have e1 : IntKind.i64.wrap (c : Int) = c := by rw [IntKind.wrap_i64]; omega
 have e2 : IntKind.i64.wrap (hW A - hW B - c) = hW (A - B) := by rw [IntKind.wrap_i64]; unfold hW; unfold lW at hx1 hy1; omega
 have HL : Hid (lW (A - B) = (l : Int)) := by show _ = _; unfold lW at *; omega
 clear hx hy hx1 hy1 hc hl ha hb hc2;generalize hW (A - B) = h3 at *;generalize hW A = h1 at *;generalize hW B = h2 at *;generalize lW (A - B) = l3 at *
 go_enter Tryz.func112, Tryz.ntmps112
 go_wp2;exact bodyPost_ret (v := .agg #[.int .i64 h3, .int .u64 l]) (by simp [results, Tryz.results112, go_sem]) rfl ⟨by rw [HL.out], (((Below.refl _ _).alloc (Nat.le_refl _) _).alloc (by simp) _).alloc (by simp; omega) _⟩
theorem wshort_in (A : Int) (ha : -4611686018427387904 <= A /\ A <= 4611686018427387904) (w : World) :
  Calls Tryz.prog 113 #[.agg #[.int .i64 (hW A), .int .u64 (lW A)]] w fun e w' => e = .returned (.tuple #[.int .i64 A, .bool true]) /\ Below w.heap.size w w' := by
 have e1 : IntKind.i64.wrap (lW A) = A := by rw [IntKind.wrap_i64]; unfold lW; omega
 rcases (show A < 0 ∨ 0 <= A by omega) with h | h
 ·have e2 : hW A = -1 := by unfold hW; omega
  rw [e2];have q1 : decide (A < 0) = true := by simpa using h
  clear ha e2;generalize lW A = l at *
  go_enter Tryz.func113, Tryz.ntmps113
  go_wp2;go_ret2;exact ⟨rfl, (Below.refl _ _).alloc (Nat.le_refl _) _⟩
 ·have e2 : hW A = 0 := by unfold hW; omega
  rw [e2];have q1 : decide (A < 0) = false := by simp; omega
  have q2 : decide (0 <= A) = true := by simpa using h
  clear ha e2;generalize lW A = l at *
  go_enter Tryz.func113, Tryz.ntmps113
  go_wp2;go_ret2;exact ⟨rfl, (Below.refl _ _).alloc (Nat.le_refl _) _⟩
def Two (w : World) (b : Nat) (u v : Value) : Prop := w.cell? ⟨b, 0, none⟩ = some u /\ w.cell? ⟨b, 1, none⟩ = some v
theorem Two.later {w w' : World} {b : Nat} {u v : Value} (h : Two w b u v) (hb : b < w.heap.size) (h1 : Below w.heap.size w w') : Two w' b u v :=
 ⟨(h1.cell (p := ⟨b, 0, none⟩) hb).trans h.1, (h1.cell (p := ⟨b, 1, none⟩) hb).trans h.2⟩
theorem Two.of_row {w : World} {b : Nat} {u v : Value} {t : TypeId} {f} (h : w.heap[b]? = some (.cells #[u, v] t f)) : Two w b u v :=
 ⟨cell_of_row _ _ 0 _ _ _ h, cell_of_row _ _ 1 _ _ _ h⟩
def Two2 (w : World) (b : Nat) (u v : Value) : Prop := Two w b u v /\ w.frozen? ⟨b, 0, none⟩ = false /\ w.frozen? ⟨b, 1, none⟩ = false
theorem Two2.later {w w' : World} {b : Nat} {u v : Value} (h : Two2 w b u v) (hb : b < w.heap.size) (h1 : Below w.heap.size w w') : Two2 w' b u v :=
 ⟨h.1.later hb h1, (h1.frozen (p := ⟨b, 0, none⟩) hb).trans h.2.1, (h1.frozen (p := ⟨b, 1, none⟩) hb).trans h.2.2⟩
theorem Two2.of_row {w : World} {b : Nat} {u v : Value} {t : TypeId} (h : w.heap[b]? = some (.cells #[u, v] t (0, 0))) : Two2 w b u v :=
 ⟨.of_row h, frozen_of_row _ _ _ _ _ h, frozen_of_row _ _ _ _ _ h⟩
theorem both_in (a b : Int) (w : World) :
  Calls Tryz.prog 114 #[.int .i64 a, .bool true, .int .i64 b, .bool true] w fun e w' => e = .returned (.tuple #[.agg #[.int .i64 a, .int .i64 b], .bool true]) /\ Below w.heap.size w w' := by
 go_enter Tryz.func114, Tryz.ntmps114
 go_wp2;exact bodyPost_ret (v := .tuple #[.agg #[.int .i64 a, .int .i64 b], .bool true]) (by simp [results, Tryz.results114, go_sem]) rfl ⟨rfl, (Below.refl _ _).alloc (Nat.le_refl _) _⟩
theorem prod_in {a b : Int} (ha : -1152921504606846976 <= a /\ a <= 1152921504606846976) (hb : -1152921504606846976 <= b /\ b <= 1152921504606846976) :
  -1329227995784915872903807060280344576 <= a * b /\ a * b <= 1329227995784915872903807060280344576 := by
 have h1 : (a * b).natAbs <= 1152921504606846976 * 1152921504606846976 := by rw [Int.natAbs_mul]; exact Nat.mul_le_mul (by omega) (by omega)
 omega
theorem mul_in (a b c d : Int) (ha : -1152921504606846976 <= a /\ a <= 1152921504606846976) (hb : -1152921504606846976 <= b /\ b <= 1152921504606846976) (hc : -1152921504606846976 <= c /\ c <= 1152921504606846976) (hd : -1152921504606846976 <= d /\ d <= 1152921504606846976)
  (h1 : -4611686018427387904 <= a * c - b * d /\ a * c - b * d <= 4611686018427387904) (h2 : -4611686018427387904 <= a * d + b * c + b * d /\ a * d + b * c + b * d <= 4611686018427387904) (w : World) :
  Calls Tryz.prog 71 #[.agg #[.int .i64 a, .int .i64 b], .agg #[.int .i64 c, .int .i64 d]] w fun e w' => e = .returned (.tuple #[.agg #[.int .i64 (a * c - b * d), .int .i64 (a * d + b * c + b * d)], .bool true]) /\ Below w.heap.size w w' := by
 have p1 := prod_in ha hc;have p2 := prod_in hb hd;have p3 := prod_in ha hd;have p4 := prod_in hb hc;have T1 := Lib.hid (times_in a c (by omega) (by omega));have T2 := Lib.hid (times_in b d (by omega) (by omega));have T3 := Lib.hid (times_in a d (by omega) (by omega));have T4 := Lib.hid (times_in b c (by omega) (by omega));have M1 := Lib.hid (wminus_in (a * c) (b * d) (by omega) (by omega));have P1 := Lib.hid (wplus_in (a * d) (b * c) (by omega) (by omega));have P2 := Lib.hid (wplus_in (a * d + b * c) (b * d) (by omega) (by omega));have S1 := Lib.hid (wshort_in _ h1);have S2 := Lib.hid (wshort_in _ h2);clear p1 p2 p3 p4 ha hb hc hd h1 h2;generalize a * c = ac at *;generalize b * d = bd at *;generalize a * d = ad at *;generalize b * c = bc at *
 go_enter Tryz.func71, Tryz.ntmps71
 go_wp2_with fail
 refine (T2.out _).mono ?_;rintro e w1 ⟨rfl, hb1⟩;have hz := hb1.size;simp at hz;have h2 : Two w1 w.heap.size (.int .i64 a) (.int .i64 b) := (Two.of_row (t := 37) (f := _) (by rw [Below.heap_alloc _ _ _ (by simp; omega), Below.heap_alloc _ _ _ (by simp)]; exact heap_new _ _ _ rfl)).later (by simp; omega) hb1;have h3 : Two w1 (w.heap.size + 1) (.int .i64 c) (.int .i64 d) := (Two.of_row (t := 37) (f := _) (by rw [Below.heap_alloc _ _ _ (by simp)]; exact heap_new _ _ _ (by simp))).later (by simp) hb1;have h5 : Two2 w1 (w.heap.size + 2) (.int .i64 0) (.int .i64 0) := (Two2.of_row (t := 37) (heap_new _ _ _ (by simp))).later (by simp) hb1
 go_upto_region 3 with (fail)
 have hq : Hid (Below w.heap.size w w1) := (((Below.refl _ _).alloc (Nat.le_refl _) _).alloc (by simp) _).alloc (by simp; omega) _ |>.trans (hb1.mono (by simp; omega))
 have h4 : Two (w1.alloc (.cells #[.int .i64 (hW bd), .int .u64 (lW bd)] 164)) w1.heap.size (.int .i64 (hW bd)) (.int .u64 (lW bd)) := Two.of_row (heap_new _ _ _ rfl);have h2 := h2.later (by omega) ((Below.refl _ _).alloc (Nat.le_refl _) (.cells #[.int .i64 (hW bd), .int .u64 (lW bd)] 164));have h3 := h3.later (by omega) ((Below.refl _ _).alloc (Nat.le_refl _) (.cells #[.int .i64 (hW bd), .int .u64 (lW bd)] 164));have h5 := h5.later (by omega) ((Below.refl _ _).alloc (Nat.le_refl _) (.cells #[.int .i64 (hW bd), .int .u64 (lW bd)] 164));have hq := Lib.hid (hq.out.alloc (by omega) (.cells #[.int .i64 (hW bd), .int .u64 (lW bd)] 164));have hs : w1.heap.size < (w1.alloc (.cells #[.int .i64 (hW bd), .int .u64 (lW bd)] 164)).heap.size := by simp
 generalize w1.alloc (.cells #[.int .i64 (hW bd), .int .u64 (lW bd)] 164) = w2 at *;have HC : Hid (∀ wx, Below w2.heap.size w2 wx -> Two wx w.heap.size (.int .i64 a) (.int .i64 b) /\ Two wx (w.heap.size + 1) (.int .i64 c) (.int .i64 d) /\ Two wx w1.heap.size (.int .i64 (hW bd)) (.int .u64 (lW bd)) /\ Two2 wx (w.heap.size + 2) (.int .i64 0) (.int .i64 0)) := fun wx hx => ⟨h2.later (by omega) hx, h3.later (by omega) hx, h4.later (by omega) hx, h5.later (by omega) hx⟩
 clear h2 h3 h4 h5 hb1;refine wp_region_inv (fun w w' => Below w.heap.size w w') (fun qi_ qv_ _ => qv_ = ([.pointer (some ⟨w.heap.size, 0, none⟩), .int .i64 a, .pointer (some ⟨w.heap.size + 1, 0, none⟩), .int .i64 c, .agg #[.int .i64 (hW ac), .int .u64 (lW ac)], .agg #[.int .i64 (hW bd), .int .u64 (lW bd)], .agg #[.int .i64 (hW (ac - bd)), .int .u64 (lW (ac - bd))], .tuple #[.int .i64 (ac - bd), .bool true], .tuple #[.int .i64 (ac - bd), .bool true], .int .i64 (ac - bd), .bool true, .int .i64 (ac - bd), .bool true] : List Value).getD qi_ undef) (by kernel_rfl) (by kernel_rfl) (fun _ => Below.refl _ _) (fun _ _ _ h1 h2 => below_later h1 h1.size h2) (fun _ _ _ _ _ _ h => h) ?_;refine inv_cons (fun wx hg hd => ?_) (fun v0 => ?_)
 ·have hx := ((Below.refl w2.heap.size w2).drew).trans hg
  clear hd hg;go_wp2;exact ⟨_, rfl, Below.refl _ _, rfl⟩
 (try simp only [List.nil_append, Act.put, List.setIfInBounds_toArray, List.set_cons_zero, List.set_cons_succ])
 refine inv_cons (fun wx hg hd => ?_) (fun v1 => ?_)
 ·have hx := ((Below.refl w2.heap.size w2).drew).trans hg
  (try (have ee : v0 = (.pointer (some ⟨w.heap.size, 0, none⟩) : Value) := hd 0 (by simp) (by decide); subst ee))
  clear hd hg;obtain ⟨⟨k1, k2⟩, ⟨k3, k4⟩, ⟨k5, k6⟩, _⟩ := HC.out _ hx;go_wp2;exact ⟨_, rfl, Below.refl _ _, rfl⟩
 (try simp only [List.cons_append, List.nil_append, Act.put, List.setIfInBounds_toArray, List.set_cons_zero, List.set_cons_succ])
 refine inv_cons (fun wx hg hd => ?_) (fun v2 => ?_)
 ·have hx := ((Below.refl w2.heap.size w2).drew).trans hg
  clear hd hg;go_wp2;exact ⟨_, rfl, Below.refl _ _, rfl⟩
 (try simp only [List.cons_append, List.nil_append, Act.put, List.setIfInBounds_toArray, List.set_cons_zero, List.set_cons_succ])
 refine inv_cons (fun wx hg hd => ?_) (fun v3 => ?_)
 ·have hx := ((Below.refl w2.heap.size w2).drew).trans hg
  (try (have ee : v2 = (.pointer (some ⟨w.heap.size + 1, 0, none⟩) : Value) := hd 2 (by simp) (by decide); subst ee))
  clear hd hg;obtain ⟨⟨k1, k2⟩, ⟨k3, k4⟩, ⟨k5, k6⟩, _⟩ := HC.out _ hx;go_wp2;exact ⟨_, rfl, Below.refl _ _, rfl⟩
 (try simp only [List.cons_append, List.nil_append, Act.put, List.setIfInBounds_toArray, List.set_cons_zero, List.set_cons_succ])
 refine inv_cons (fun wx hg hd => ?_) (fun v4 => ?_)
 ·have hx := ((Below.refl w2.heap.size w2).drew).trans hg
  (try (have ee : v1 = (.int .i64 a : Value) := hd 1 (by simp) (by decide); subst ee))
  (try (have ee : v3 = (.int .i64 c : Value) := hd 3 (by simp) (by decide); subst ee))
  clear hd hg
  go_wp2_with fail
  refine (T1.out _).mono ?_;rintro e w' ⟨rfl, hb⟩;go_wp2;exact ⟨_, rfl, hb, rfl⟩
 (try simp only [List.cons_append, List.nil_append, Act.put, List.setIfInBounds_toArray, List.set_cons_zero, List.set_cons_succ])
 refine inv_cons (fun wx hg hd => ?_) (fun v5 => ?_)
 ·have hx := ((Below.refl w2.heap.size w2).drew).trans hg
  clear hd hg;obtain ⟨⟨k1, k2⟩, ⟨k3, k4⟩, ⟨k5, k6⟩, _⟩ := HC.out _ hx;go_wp2;exact ⟨_, rfl, Below.refl _ _, rfl⟩
 (try simp only [List.cons_append, List.nil_append, Act.put, List.setIfInBounds_toArray, List.set_cons_zero, List.set_cons_succ])
 refine inv_cons (fun wx hg hd => ?_) (fun v6 => ?_)
 ·have hx := ((Below.refl w2.heap.size w2).drew).trans hg
  (try (have ee : v4 = (.agg #[.int .i64 (hW ac), .int .u64 (lW ac)] : Value) := hd 4 (by simp) (by decide); subst ee))
  (try (have ee : v5 = (.agg #[.int .i64 (hW bd), .int .u64 (lW bd)] : Value) := hd 5 (by simp) (by decide); subst ee))
  clear hd hg
  go_wp2_with fail
  refine (M1.out _).mono ?_;rintro e w' ⟨rfl, hb⟩;go_wp2;exact ⟨_, rfl, hb, rfl⟩
 (try simp only [List.cons_append, List.nil_append, Act.put, List.setIfInBounds_toArray, List.set_cons_zero, List.set_cons_succ])
 refine inv_cons (fun wx hg hd => ?_) (fun v7 => ?_)
 ·have hx := ((Below.refl w2.heap.size w2).drew).trans hg
  (try (have ee : v6 = (.agg #[.int .i64 (hW (ac - bd)), .int .u64 (lW (ac - bd))] : Value) := hd 6 (by simp) (by decide); subst ee))
  clear hd hg
  go_wp2_with fail
  refine (S1.out _).mono ?_;rintro e w' ⟨rfl, hb⟩;go_wp2;exact ⟨_, rfl, hb, rfl⟩
 (try simp only [List.cons_append, List.nil_append, Act.put, List.setIfInBounds_toArray, List.set_cons_zero, List.set_cons_succ])
 refine inv_cons (fun wx hg hd => ?_) (fun v8 => ?_)
 ·have hx := ((Below.refl w2.heap.size w2).drew).trans hg
  (try (have ee : v7 = (.tuple #[.int .i64 (ac - bd), .bool true] : Value) := hd 7 (by simp) (by decide); subst ee))
  clear hd hg;go_wp2;exact ⟨_, rfl, Below.refl _ _, rfl⟩
 (try simp only [List.cons_append, List.nil_append, Act.put, List.setIfInBounds_toArray, List.set_cons_zero, List.set_cons_succ])
 refine inv_cons (fun wx hg hd => ?_) (fun v9 => ?_)
 ·have hx := ((Below.refl w2.heap.size w2).drew).trans hg
  (try (have ee : v8 = (.tuple #[.int .i64 (ac - bd), .bool true] : Value) := hd 8 (by simp) (by decide); subst ee))
  clear hd hg;go_wp2;exact ⟨_, rfl, Below.refl _ _, rfl⟩
 (try simp only [List.cons_append, List.nil_append, Act.put, List.setIfInBounds_toArray, List.set_cons_zero, List.set_cons_succ])
 refine inv_cons (fun wx hg hd => ?_) (fun v10 => ?_)
 ·have hx := ((Below.refl w2.heap.size w2).drew).trans hg
  (try (have ee : v8 = (.tuple #[.int .i64 (ac - bd), .bool true] : Value) := hd 8 (by simp) (by decide); subst ee))
  clear hd hg;go_wp2;exact ⟨_, rfl, Below.refl _ _, rfl⟩
 (try simp only [List.cons_append, List.nil_append, Act.put, List.setIfInBounds_toArray, List.set_cons_zero, List.set_cons_succ])
 refine inv_cons (fun wx hg hd => ?_) (fun v11 => ?_)
 ·have hx := ((Below.refl w2.heap.size w2).drew).trans hg
  (try (have ee : v9 = (.int .i64 (ac - bd) : Value) := hd 9 (by simp) (by decide); subst ee))
  clear hd hg;go_wp2;exact ⟨_, rfl, Below.refl _ _, rfl⟩
 (try simp only [List.cons_append, List.nil_append, Act.put, List.setIfInBounds_toArray, List.set_cons_zero, List.set_cons_succ])
 refine inv_cons (fun wx hg hd => ?_) (fun v12 => ?_)
 ·have hx := ((Below.refl w2.heap.size w2).drew).trans hg
  (try (have ee : v10 = (.bool true : Value) := hd 10 (by simp) (by decide); subst ee))
  clear hd hg;go_wp2;exact ⟨_, rfl, Below.refl _ _, rfl⟩
 (try simp only [List.cons_append, List.nil_append, Act.put, List.setIfInBounds_toArray, List.set_cons_zero, List.set_cons_succ])
 refine inv_done (fun wx hg hd => ?_);have hx := ((Below.refl w2.heap.size w2).drew).trans hg
 (have ee : v0 = (.pointer (some ⟨w.heap.size, 0, none⟩) : Value) := hd 0 (by simp); subst ee)
 (have ee : v1 = (.int .i64 a : Value) := hd 1 (by simp); subst ee)
 (have ee : v2 = (.pointer (some ⟨w.heap.size + 1, 0, none⟩) : Value) := hd 2 (by simp); subst ee)
 (have ee : v3 = (.int .i64 c : Value) := hd 3 (by simp); subst ee)
 (have ee : v4 = (.agg #[.int .i64 (hW ac), .int .u64 (lW ac)] : Value) := hd 4 (by simp); subst ee)
 (have ee : v5 = (.agg #[.int .i64 (hW bd), .int .u64 (lW bd)] : Value) := hd 5 (by simp); subst ee)
 (have ee : v6 = (.agg #[.int .i64 (hW (ac - bd)), .int .u64 (lW (ac - bd))] : Value) := hd 6 (by simp); subst ee)
 (have ee : v7 = (.tuple #[.int .i64 (ac - bd), .bool true] : Value) := hd 7 (by simp); subst ee)
 (have ee : v8 = (.tuple #[.int .i64 (ac - bd), .bool true] : Value) := hd 8 (by simp); subst ee)
 (have ee : v9 = (.int .i64 (ac - bd) : Value) := hd 9 (by simp); subst ee)
 (have ee : v10 = (.bool true : Value) := hd 10 (by simp); subst ee)
 (have ee : v11 = (.int .i64 (ac - bd) : Value) := hd 11 (by simp); subst ee)
 (have ee : v12 = (.bool true : Value) := hd 12 (by simp); subst ee)
 clear hd hg
 (try go_simp)
 have hq2 : Hid (Below w.heap.size w wx) := hq.out.trans (hx.mono (by have := hq.out.size; omega));have HC2 : Hid (∀ wy, Below wx.heap.size wx wy -> Two wy w.heap.size (.int .i64 a) (.int .i64 b) /\ Two wy (w.heap.size + 1) (.int .i64 c) (.int .i64 d) /\ Two wy w1.heap.size (.int .i64 (hW bd)) (.int .u64 (lW bd)) /\ Two2 wy (w.heap.size + 2) (.int .i64 0) (.int .i64 0)) := fun wy hy => HC.out _ (hx.trans (hy.mono hx.size))
 have hz3 : w.heap.size + 2 < wx.heap.size := by have := hx.size; omega
 clear HC hq hx;generalize wx = w3 at *
 go_upto_region 4 with (fail)
 refine wp_region_inv (fun w w' => Below w.heap.size w w') (fun qi_ qv_ _ => qv_ = ([.func (.func 110) #[] #[], .func (.func 110) #[] #[], .pointer (some ⟨w.heap.size, 0, none⟩), .int .i64 a, .pointer (some ⟨w.heap.size + 1, 1, none⟩), .int .i64 d, .agg #[.int .i64 (hW ad), .int .u64 (lW ad)], .pointer (some ⟨w.heap.size, 1, none⟩), .int .i64 b, .pointer (some ⟨w.heap.size + 1, 0, none⟩), .int .i64 c, .agg #[.int .i64 (hW bc), .int .u64 (lW bc)], .agg #[.int .i64 (hW (ad + bc)), .int .u64 (lW (ad + bc))], .agg #[.int .i64 (hW bd), .int .u64 (lW bd)], .agg #[.int .i64 (hW (ad + bc + bd)), .int .u64 (lW (ad + bc + bd))], .tuple #[.int .i64 (ad + bc + bd), .bool true], .tuple #[.int .i64 (ad + bc + bd), .bool true], .int .i64 (ad + bc + bd), .bool true, .int .i64 (ad + bc + bd), .bool true] : List Value).getD qi_ undef) (by kernel_rfl) (by kernel_rfl) (fun _ => Below.refl _ _) (fun _ _ _ h1 h2 => below_later h1 h1.size h2) (fun _ _ _ _ _ _ h => h) ?_;refine inv_cons (fun wx hg hd => ?_) (fun v0 => ?_)
 ·have hx := ((Below.refl w3.heap.size w3).drew).trans hg
  clear hd hg;go_wp2;exact ⟨_, rfl, Below.refl _ _, rfl⟩
 (try simp only [List.nil_append, Act.put, List.setIfInBounds_toArray, List.set_cons_zero, List.set_cons_succ])
 refine inv_cons (fun wx hg hd => ?_) (fun v1 => ?_)
 ·have hx := ((Below.refl w3.heap.size w3).drew).trans hg
  clear hd hg;go_wp2;exact ⟨_, rfl, Below.refl _ _, rfl⟩
 (try simp only [List.cons_append, List.nil_append, Act.put, List.setIfInBounds_toArray, List.set_cons_zero, List.set_cons_succ])
 refine inv_cons (fun wx hg hd => ?_) (fun v2 => ?_)
 ·have hx := ((Below.refl w3.heap.size w3).drew).trans hg
  clear hd hg;go_wp2;exact ⟨_, rfl, Below.refl _ _, rfl⟩
 (try simp only [List.cons_append, List.nil_append, Act.put, List.setIfInBounds_toArray, List.set_cons_zero, List.set_cons_succ])
 refine inv_cons (fun wx hg hd => ?_) (fun v3 => ?_)
 ·have hx := ((Below.refl w3.heap.size w3).drew).trans hg
  (try (have ee : v2 = (.pointer (some ⟨w.heap.size, 0, none⟩) : Value) := hd 2 (by simp) (by decide); subst ee))
  clear hd hg;obtain ⟨⟨k1, k2⟩, ⟨k3, k4⟩, ⟨k5, k6⟩, _⟩ := HC2.out _ hx;go_wp2;exact ⟨_, rfl, Below.refl _ _, rfl⟩
 (try simp only [List.cons_append, List.nil_append, Act.put, List.setIfInBounds_toArray, List.set_cons_zero, List.set_cons_succ])
 refine inv_cons (fun wx hg hd => ?_) (fun v4 => ?_)
 ·have hx := ((Below.refl w3.heap.size w3).drew).trans hg
  clear hd hg;go_wp2;exact ⟨_, rfl, Below.refl _ _, rfl⟩
 (try simp only [List.cons_append, List.nil_append, Act.put, List.setIfInBounds_toArray, List.set_cons_zero, List.set_cons_succ])
 refine inv_cons (fun wx hg hd => ?_) (fun v5 => ?_)
 ·have hx := ((Below.refl w3.heap.size w3).drew).trans hg
  (try (have ee : v4 = (.pointer (some ⟨w.heap.size + 1, 1, none⟩) : Value) := hd 4 (by simp) (by decide); subst ee))
  clear hd hg;obtain ⟨⟨k1, k2⟩, ⟨k3, k4⟩, ⟨k5, k6⟩, _⟩ := HC2.out _ hx;go_wp2;exact ⟨_, rfl, Below.refl _ _, rfl⟩
 (try simp only [List.cons_append, List.nil_append, Act.put, List.setIfInBounds_toArray, List.set_cons_zero, List.set_cons_succ])
 refine inv_cons (fun wx hg hd => ?_) (fun v6 => ?_)
 ·have hx := ((Below.refl w3.heap.size w3).drew).trans hg
  (try (have ee : v3 = (.int .i64 a : Value) := hd 3 (by simp) (by decide); subst ee))
  (try (have ee : v5 = (.int .i64 d : Value) := hd 5 (by simp) (by decide); subst ee))
  clear hd hg
  go_wp2_with fail
  refine (T3.out _).mono ?_;rintro e w' ⟨rfl, hb⟩;go_wp2;exact ⟨_, rfl, hb, rfl⟩
 (try simp only [List.cons_append, List.nil_append, Act.put, List.setIfInBounds_toArray, List.set_cons_zero, List.set_cons_succ])
 refine inv_cons (fun wx hg hd => ?_) (fun v7 => ?_)
 ·have hx := ((Below.refl w3.heap.size w3).drew).trans hg
  clear hd hg;go_wp2;exact ⟨_, rfl, Below.refl _ _, rfl⟩
 (try simp only [List.cons_append, List.nil_append, Act.put, List.setIfInBounds_toArray, List.set_cons_zero, List.set_cons_succ])
 refine inv_cons (fun wx hg hd => ?_) (fun v8 => ?_)
 ·have hx := ((Below.refl w3.heap.size w3).drew).trans hg
  (try (have ee : v7 = (.pointer (some ⟨w.heap.size, 1, none⟩) : Value) := hd 7 (by simp) (by decide); subst ee))
  clear hd hg;obtain ⟨⟨k1, k2⟩, ⟨k3, k4⟩, ⟨k5, k6⟩, _⟩ := HC2.out _ hx;go_wp2;exact ⟨_, rfl, Below.refl _ _, rfl⟩
 (try simp only [List.cons_append, List.nil_append, Act.put, List.setIfInBounds_toArray, List.set_cons_zero, List.set_cons_succ])
 refine inv_cons (fun wx hg hd => ?_) (fun v9 => ?_)
 ·have hx := ((Below.refl w3.heap.size w3).drew).trans hg
  clear hd hg;go_wp2;exact ⟨_, rfl, Below.refl _ _, rfl⟩
 (try simp only [List.cons_append, List.nil_append, Act.put, List.setIfInBounds_toArray, List.set_cons_zero, List.set_cons_succ])
 refine inv_cons (fun wx hg hd => ?_) (fun v10 => ?_)
 ·have hx := ((Below.refl w3.heap.size w3).drew).trans hg
  (try (have ee : v9 = (.pointer (some ⟨w.heap.size + 1, 0, none⟩) : Value) := hd 9 (by simp) (by decide); subst ee))
  clear hd hg;obtain ⟨⟨k1, k2⟩, ⟨k3, k4⟩, ⟨k5, k6⟩, _⟩ := HC2.out _ hx;go_wp2;exact ⟨_, rfl, Below.refl _ _, rfl⟩
 (try simp only [List.cons_append, List.nil_append, Act.put, List.setIfInBounds_toArray, List.set_cons_zero, List.set_cons_succ])
 refine inv_cons (fun wx hg hd => ?_) (fun v11 => ?_)
 ·have hx := ((Below.refl w3.heap.size w3).drew).trans hg
  (try (have ee : v8 = (.int .i64 b : Value) := hd 8 (by simp) (by decide); subst ee))
  (try (have ee : v10 = (.int .i64 c : Value) := hd 10 (by simp) (by decide); subst ee))
  clear hd hg
  go_wp2_with fail
  refine (T4.out _).mono ?_;rintro e w' ⟨rfl, hb⟩;go_wp2;exact ⟨_, rfl, hb, rfl⟩
 (try simp only [List.cons_append, List.nil_append, Act.put, List.setIfInBounds_toArray, List.set_cons_zero, List.set_cons_succ])
 refine inv_cons (fun wx hg hd => ?_) (fun v12 => ?_)
 ·have hx := ((Below.refl w3.heap.size w3).drew).trans hg
  (try (have ee : v1 = (.func (.func 110) #[] #[] : Value) := hd 1 (by simp) (by decide); subst ee))
  (try (have ee : v6 = (.agg #[.int .i64 (hW ad), .int .u64 (lW ad)] : Value) := hd 6 (by simp) (by decide); subst ee))
  (try (have ee : v11 = (.agg #[.int .i64 (hW bc), .int .u64 (lW bc)] : Value) := hd 11 (by simp) (by decide); subst ee))
  clear hd hg
  go_wp2_with fail
  refine (P1.out _).mono ?_;rintro e w' ⟨rfl, hb⟩;go_wp2;exact ⟨_, rfl, hb, rfl⟩
 (try simp only [List.cons_append, List.nil_append, Act.put, List.setIfInBounds_toArray, List.set_cons_zero, List.set_cons_succ])
 refine inv_cons (fun wx hg hd => ?_) (fun v13 => ?_)
 ·have hx := ((Below.refl w3.heap.size w3).drew).trans hg
  clear hd hg;obtain ⟨⟨k1, k2⟩, ⟨k3, k4⟩, ⟨k5, k6⟩, _⟩ := HC2.out _ hx;go_wp2;exact ⟨_, rfl, Below.refl _ _, rfl⟩
 (try simp only [List.cons_append, List.nil_append, Act.put, List.setIfInBounds_toArray, List.set_cons_zero, List.set_cons_succ])
 refine inv_cons (fun wx hg hd => ?_) (fun v14 => ?_)
 ·have hx := ((Below.refl w3.heap.size w3).drew).trans hg
  (try (have ee : v0 = (.func (.func 110) #[] #[] : Value) := hd 0 (by simp) (by decide); subst ee))
  (try (have ee : v12 = (.agg #[.int .i64 (hW (ad + bc)), .int .u64 (lW (ad + bc))] : Value) := hd 12 (by simp) (by decide); subst ee))
  (try (have ee : v13 = (.agg #[.int .i64 (hW bd), .int .u64 (lW bd)] : Value) := hd 13 (by simp) (by decide); subst ee))
  clear hd hg
  go_wp2_with fail
  refine (P2.out _).mono ?_;rintro e w' ⟨rfl, hb⟩;go_wp2;exact ⟨_, rfl, hb, rfl⟩
 (try simp only [List.cons_append, List.nil_append, Act.put, List.setIfInBounds_toArray, List.set_cons_zero, List.set_cons_succ])
 refine inv_cons (fun wx hg hd => ?_) (fun v15 => ?_)
 ·have hx := ((Below.refl w3.heap.size w3).drew).trans hg
  (try (have ee : v14 = (.agg #[.int .i64 (hW (ad + bc + bd)), .int .u64 (lW (ad + bc + bd))] : Value) := hd 14 (by simp) (by decide); subst ee))
  clear hd hg
  go_wp2_with fail
  refine (S2.out _).mono ?_;rintro e w' ⟨rfl, hb⟩;go_wp2;exact ⟨_, rfl, hb, rfl⟩
 (try simp only [List.cons_append, List.nil_append, Act.put, List.setIfInBounds_toArray, List.set_cons_zero, List.set_cons_succ])
 refine inv_cons (fun wx hg hd => ?_) (fun v16 => ?_)
 ·have hx := ((Below.refl w3.heap.size w3).drew).trans hg
  (try (have ee : v15 = (.tuple #[.int .i64 (ad + bc + bd), .bool true] : Value) := hd 15 (by simp) (by decide); subst ee))
  clear hd hg;go_wp2;exact ⟨_, rfl, Below.refl _ _, rfl⟩
 (try simp only [List.cons_append, List.nil_append, Act.put, List.setIfInBounds_toArray, List.set_cons_zero, List.set_cons_succ])
 refine inv_cons (fun wx hg hd => ?_) (fun v17 => ?_)
 ·have hx := ((Below.refl w3.heap.size w3).drew).trans hg
  (try (have ee : v16 = (.tuple #[.int .i64 (ad + bc + bd), .bool true] : Value) := hd 16 (by simp) (by decide); subst ee))
  clear hd hg;go_wp2;exact ⟨_, rfl, Below.refl _ _, rfl⟩
 (try simp only [List.cons_append, List.nil_append, Act.put, List.setIfInBounds_toArray, List.set_cons_zero, List.set_cons_succ])
 refine inv_cons (fun wx hg hd => ?_) (fun v18 => ?_)
 ·have hx := ((Below.refl w3.heap.size w3).drew).trans hg
  (try (have ee : v16 = (.tuple #[.int .i64 (ad + bc + bd), .bool true] : Value) := hd 16 (by simp) (by decide); subst ee))
  clear hd hg;go_wp2;exact ⟨_, rfl, Below.refl _ _, rfl⟩
 (try simp only [List.cons_append, List.nil_append, Act.put, List.setIfInBounds_toArray, List.set_cons_zero, List.set_cons_succ])
 refine inv_cons (fun wx hg hd => ?_) (fun v19 => ?_)
 ·have hx := ((Below.refl w3.heap.size w3).drew).trans hg
  (try (have ee : v17 = (.int .i64 (ad + bc + bd) : Value) := hd 17 (by simp) (by decide); subst ee))
  clear hd hg;go_wp2;exact ⟨_, rfl, Below.refl _ _, rfl⟩
 (try simp only [List.cons_append, List.nil_append, Act.put, List.setIfInBounds_toArray, List.set_cons_zero, List.set_cons_succ])
 refine inv_cons (fun wx hg hd => ?_) (fun v20 => ?_)
 ·have hx := ((Below.refl w3.heap.size w3).drew).trans hg
  (try (have ee : v18 = (.bool true : Value) := hd 18 (by simp) (by decide); subst ee))
  clear hd hg;go_wp2;exact ⟨_, rfl, Below.refl _ _, rfl⟩
 (try simp only [List.cons_append, List.nil_append, Act.put, List.setIfInBounds_toArray, List.set_cons_zero, List.set_cons_succ])
 refine inv_done (fun wx hg hd => ?_);have hx := ((Below.refl w3.heap.size w3).drew).trans hg
 (have ee : v0 = (.func (.func 110) #[] #[] : Value) := hd 0 (by simp); subst ee)
 (have ee : v1 = (.func (.func 110) #[] #[] : Value) := hd 1 (by simp); subst ee)
 (have ee : v2 = (.pointer (some ⟨w.heap.size, 0, none⟩) : Value) := hd 2 (by simp); subst ee)
 (have ee : v3 = (.int .i64 a : Value) := hd 3 (by simp); subst ee)
 (have ee : v4 = (.pointer (some ⟨w.heap.size + 1, 1, none⟩) : Value) := hd 4 (by simp); subst ee)
 (have ee : v5 = (.int .i64 d : Value) := hd 5 (by simp); subst ee)
 (have ee : v6 = (.agg #[.int .i64 (hW ad), .int .u64 (lW ad)] : Value) := hd 6 (by simp); subst ee)
 (have ee : v7 = (.pointer (some ⟨w.heap.size, 1, none⟩) : Value) := hd 7 (by simp); subst ee)
 (have ee : v8 = (.int .i64 b : Value) := hd 8 (by simp); subst ee)
 (have ee : v9 = (.pointer (some ⟨w.heap.size + 1, 0, none⟩) : Value) := hd 9 (by simp); subst ee)
 (have ee : v10 = (.int .i64 c : Value) := hd 10 (by simp); subst ee)
 (have ee : v11 = (.agg #[.int .i64 (hW bc), .int .u64 (lW bc)] : Value) := hd 11 (by simp); subst ee)
 (have ee : v12 = (.agg #[.int .i64 (hW (ad + bc)), .int .u64 (lW (ad + bc))] : Value) := hd 12 (by simp); subst ee)
 (have ee : v13 = (.agg #[.int .i64 (hW bd), .int .u64 (lW bd)] : Value) := hd 13 (by simp); subst ee)
 (have ee : v14 = (.agg #[.int .i64 (hW (ad + bc + bd)), .int .u64 (lW (ad + bc + bd))] : Value) := hd 14 (by simp); subst ee)
 (have ee : v15 = (.tuple #[.int .i64 (ad + bc + bd), .bool true] : Value) := hd 15 (by simp); subst ee)
 (have ee : v16 = (.tuple #[.int .i64 (ad + bc + bd), .bool true] : Value) := hd 16 (by simp); subst ee)
 (have ee : v17 = (.int .i64 (ad + bc + bd) : Value) := hd 17 (by simp); subst ee)
 (have ee : v18 = (.bool true : Value) := hd 18 (by simp); subst ee)
 (have ee : v19 = (.int .i64 (ad + bc + bd) : Value) := hd 19 (by simp); subst ee)
 (have ee : v20 = (.bool true : Value) := hd 20 (by simp); subst ee)
 clear hd hg
 (try go_simp)
 have hq3 : Hid (Below w.heap.size w wx) := hq2.out.trans (hx.mono hq2.out.size);obtain ⟨-, -, -, h5⟩ := HC2.out _ hx;have hz3 : w.heap.size + 2 < w3.heap.size := hz3;have hz4 := hx.size;clear HC2 hq2 hx
 go_wp2_with fail
 refine (both_in _ _ _).mono ?_;rintro e w5 ⟨rfl, hb5⟩;obtain ⟨⟨c0, c1⟩, f0, f1⟩ := h5.later (by omega) hb5;have hq4 := Lib.hid (hq3.out.trans (hb5.mono hq3.out.size));clear hb5;go_wp2;exact bodyPost_ret (v := .tuple #[.agg #[.int .i64 (ac - bd), .int .i64 (ad + bc + bd)], .bool true]) (by simp [results, Tryz.results71, go_sem, *]) rfl ⟨rfl, (hq4.out.setCell (p := ⟨w.heap.size + 1 + 1, 0, none⟩) (by simp; omega) _).setCell (p := ⟨w.heap.size + 1 + 1, 1, none⟩) (by simp; omega) _⟩
abbrev vE (z : E2) : Value := .agg #[.int .i64 z.1, .int .i64 z.2]
theorem sides_nadd (a b c d x y : Int) (h1 : ∀ w, Calls Tryz.prog 105 #[.int .i64 a, .int .i64 c] w fun e w' => e = .returned (.tuple #[.int .i64 x, .bool true]) /\ w' = w)
  (h2 : ∀ w, Calls Tryz.prog 105 #[.int .i64 b, .int .i64 d] w fun e w' => e = .returned (.tuple #[.int .i64 y, .bool true]) /\ w' = w) (w : World) :
  Calls Tryz.prog 104 #[.agg #[.int .i64 a, .int .i64 b], .agg #[.int .i64 c, .int .i64 d], .func (.func 105) #[] #[]] w fun e w' => e = .returned (.tuple #[.agg #[.int .i64 x, .int .i64 y], .bool true]) /\ Below w.heap.size w w' := by
 have H1 := Lib.hid h1;have H2 := Lib.hid h2;clear h1 h2
 go_enter Tryz.func104, Tryz.ntmps104
 go_wp2_with fail
 refine (H1.out _).mono ?_;rintro e w1 ⟨rfl, rfl⟩
 go_wp2_with fail
 refine (H2.out _).mono ?_;rintro e w1 ⟨rfl, rfl⟩
 go_wp2_with fail
 refine (both_in _ _ _).mono ?_;rintro e w1 ⟨rfl, hb⟩;have h5 : Two2 w1 (w.heap.size + 2) (.int .i64 0) (.int .i64 0) := (Two2.of_row (t := 37) (heap_new _ _ _ (by simp))).later (by simp) hb;obtain ⟨⟨c0, c1⟩, f0, f1⟩ := h5;have hz := hb.size;simp at hz;have hq : Hid (Below w.heap.size w w1) := (((Below.refl _ _).alloc (Nat.le_refl _) _).alloc (by simp) _).alloc (by simp; omega) _ |>.trans (hb.mono (by simp; omega))
 clear hb H1 H2;go_wp2;exact bodyPost_ret (v := .tuple #[.agg #[.int .i64 x, .int .i64 y], .bool true]) (by simp [results, Tryz.results104, go_sem, *]) rfl ⟨rfl, (hq.out.setCell (p := ⟨w.heap.size + 1 + 1, 0, none⟩) (by simp; omega) _).setCell (p := ⟨w.heap.size + 1 + 1, 1, none⟩) (by simp; omega) _⟩
theorem sides_nsub (a b c d x y : Int) (h1 : ∀ w, Calls Tryz.prog 182 #[.int .i64 a, .int .i64 c] w fun e w' => e = .returned (.tuple #[.int .i64 x, .bool true]) /\ w' = w)
  (h2 : ∀ w, Calls Tryz.prog 182 #[.int .i64 b, .int .i64 d] w fun e w' => e = .returned (.tuple #[.int .i64 y, .bool true]) /\ w' = w) (w : World) :
  Calls Tryz.prog 104 #[.agg #[.int .i64 a, .int .i64 b], .agg #[.int .i64 c, .int .i64 d], .func (.func 182) #[] #[]] w fun e w' => e = .returned (.tuple #[.agg #[.int .i64 x, .int .i64 y], .bool true]) /\ Below w.heap.size w w' := by
 have H1 := Lib.hid h1;have H2 := Lib.hid h2;clear h1 h2
 go_enter Tryz.func104, Tryz.ntmps104
 go_wp2_with fail
 refine (H1.out _).mono ?_;rintro e w1 ⟨rfl, rfl⟩
 go_wp2_with fail
 refine (H2.out _).mono ?_;rintro e w1 ⟨rfl, rfl⟩
 go_wp2_with fail
 refine (both_in _ _ _).mono ?_;rintro e w1 ⟨rfl, hb⟩;have h5 : Two2 w1 (w.heap.size + 2) (.int .i64 0) (.int .i64 0) := (Two2.of_row (t := 37) (heap_new _ _ _ (by simp))).later (by simp) hb;obtain ⟨⟨c0, c1⟩, f0, f1⟩ := h5;have hz := hb.size;simp at hz;have hq : Hid (Below w.heap.size w w1) := (((Below.refl _ _).alloc (Nat.le_refl _) _).alloc (by simp) _).alloc (by simp; omega) _ |>.trans (hb.mono (by simp; omega))
 clear hb H1 H2;go_wp2;exact bodyPost_ret (v := .tuple #[.agg #[.int .i64 x, .int .i64 y], .bool true]) (by simp [results, Tryz.results104, go_sem, *]) rfl ⟨rfl, (hq.out.setCell (p := ⟨w.heap.size + 1 + 1, 0, none⟩) (by simp; omega) _).setCell (p := ⟨w.heap.size + 1 + 1, 1, none⟩) (by simp; omega) _⟩
def Sm (h : Int) (z : E2) : Prop := -h <= z.1 /\ z.1 <= h /\ -h <= z.2 /\ z.2 <= h
theorem add_in (y z : E2) (hy : Sm 4611686018427387903 y) (hz : Sm 4611686018427387903 z) (w : World) :
  Calls Tryz.prog 66 #[vE y, vE z] w fun e w' => e = .returned (.tuple #[vE (addE y z), .bool true]) /\ Below w.heap.size w w' := by
 obtain ⟨a, b⟩ := y;obtain ⟨c, d⟩ := z;unfold Sm at hy hz;simp only at hy hz;have HS := Lib.hid (sides_nadd a b c d (a + c) (b + d) (nadd_in a c (by omega) (by omega) (by omega) (by omega)) (nadd_in b d (by omega) (by omega) (by omega) (by omega)));clear hy hz;show Calls Tryz.prog 66 #[.agg #[.int .i64 a, .int .i64 b], .agg #[.int .i64 c, .int .i64 d]] w fun e w' => e = .returned (.tuple #[.agg #[.int .i64 (a + c), .int .i64 (b + d)], .bool true]) /\ Below w.heap.size w w'
 generalize a + c = x at *;generalize b + d = y at *
 go_enter Tryz.func66, Tryz.ntmps66
 go_wp2_with fail
 refine (HS.out _).mono ?_;rintro e w1 ⟨rfl, hb⟩;have h5 : Two2 w1 (w.heap.size + 2) (.int .i64 0) (.int .i64 0) := (Two2.of_row (t := 37) (heap_new _ _ _ (by simp))).later (by simp) hb;obtain ⟨⟨c0, c1⟩, f0, f1⟩ := h5;have hz := hb.size;simp at hz;have hq : Hid (Below w.heap.size w w1) := (((Below.refl _ _).alloc (Nat.le_refl _) _).alloc (by simp) _).alloc (by simp; omega) _ |>.trans (hb.mono (by simp; omega))
 clear hb HS;go_wp2;exact bodyPost_ret (v := .tuple #[.agg #[.int .i64 x, .int .i64 y], .bool true]) (by simp [results, Tryz.results66, go_sem, *]) rfl ⟨rfl, (hq.out.setCell (p := ⟨w.heap.size + 1 + 1, 0, none⟩) (by simp; omega) _).setCell (p := ⟨w.heap.size + 1 + 1, 1, none⟩) (by simp; omega) _⟩
theorem sub_in (y z : E2) (hy : Sm 4611686018427387903 y) (hz : Sm 4611686018427387903 z) (w : World) :
  Calls Tryz.prog 174 #[vE y, vE z] w fun e w' => e = .returned (.tuple #[vE (subE y z), .bool true]) /\ Below w.heap.size w w' := by
 obtain ⟨a, b⟩ := y;obtain ⟨c, d⟩ := z;unfold Sm at hy hz;simp only at hy hz;have HS := Lib.hid (sides_nsub a b c d (a - c) (b - d) (nsub_in a c (by omega) (by omega) (by omega) (by omega)) (nsub_in b d (by omega) (by omega) (by omega) (by omega)));clear hy hz;show Calls Tryz.prog 174 #[.agg #[.int .i64 a, .int .i64 b], .agg #[.int .i64 c, .int .i64 d]] w fun e w' => e = .returned (.tuple #[.agg #[.int .i64 (a - c), .int .i64 (b - d)], .bool true]) /\ Below w.heap.size w w'
 generalize a - c = x at *;generalize b - d = y at *
 go_enter Tryz.func174, Tryz.ntmps174
 go_wp2_with fail
 refine (HS.out _).mono ?_;rintro e w1 ⟨rfl, hb⟩;have h5 : Two2 w1 (w.heap.size + 2) (.int .i64 0) (.int .i64 0) := (Two2.of_row (t := 37) (heap_new _ _ _ (by simp))).later (by simp) hb;obtain ⟨⟨c0, c1⟩, f0, f1⟩ := h5;have hz := hb.size;simp at hz;have hq : Hid (Below w.heap.size w w1) := (((Below.refl _ _).alloc (Nat.le_refl _) _).alloc (by simp) _).alloc (by simp; omega) _ |>.trans (hb.mono (by simp; omega))
 clear hb HS;go_wp2;exact bodyPost_ret (v := .tuple #[.agg #[.int .i64 x, .int .i64 y], .bool true]) (by simp [results, Tryz.results174, go_sem, *]) rfl ⟨rfl, (hq.out.setCell (p := ⟨w.heap.size + 1 + 1, 0, none⟩) (by simp; omega) _).setCell (p := ⟨w.heap.size + 1 + 1, 1, none⟩) (by simp; omega) _⟩
theorem neg_in (a : Int) (h1 : -4611686018427387903 <= a) (h2 : a <= 4611686018427387903) (w : World) :
  Calls Tryz.prog 170 #[.int .i64 a] w fun e w' => e = .returned (.tuple #[.int .i64 (-a), .bool true]) /\ w' = w := by
 have H := Lib.hid (nsub_in 0 a (by omega) (by omega) (by omega) (by omega));rw [Int.zero_sub] at H;generalize -a = b at *
 go_enter Tryz.func170, Tryz.ntmps170
 go_wp2_with fail
 refine (H.out _).mono ?_;rintro e w1 ⟨rfl, rfl⟩;go_wp2;go_ret2;exact ⟨rfl, rfl⟩
theorem conj_in (z : E2) (hz : Sm 1152921504606846976 z) (w : World) :
  Calls Tryz.prog 143 #[vE z] w fun e w' => e = .returned (.tuple #[.agg #[.int .i64 (z.1 + z.2), .int .i64 (-z.2)], .bool true]) /\ Below w.heap.size w w' := by
 obtain ⟨a, b⟩ := z;unfold Sm at hz;simp only at hz ⊢;have H1 := Lib.hid (nadd_in a b (by omega) (by omega) (by omega) (by omega));have H2 := Lib.hid (neg_in b (by omega) (by omega));clear hz;generalize a + b = x at *;generalize -b = y at *
 go_enter Tryz.func143, Tryz.ntmps143
 go_wp2_with fail
 refine (H1.out _).mono ?_;rintro e w1 ⟨rfl, rfl⟩
 go_wp2_with fail
 refine (H2.out _).mono ?_;rintro e w1 ⟨rfl, rfl⟩
 go_wp2_with fail
 refine (both_in _ _ _).mono ?_;rintro e w1 ⟨rfl, hb⟩;have h5 : Two2 w1 (w.heap.size + 1) (.int .i64 0) (.int .i64 0) := (Two2.of_row (t := 37) (heap_new _ _ _ (by simp))).later (by simp) hb;obtain ⟨⟨c0, c1⟩, f0, f1⟩ := h5;have hz := hb.size;simp at hz;have hq : Hid (Below w.heap.size w w1) := ((Below.refl _ _).alloc (Nat.le_refl _) _).alloc (by simp) _ |>.trans (hb.mono (by simp; omega))
 clear hb H1 H2;go_wp2;exact bodyPost_ret (v := .tuple #[.agg #[.int .i64 x, .int .i64 y], .bool true]) (by simp [results, Tryz.results143, go_sem, *]) rfl ⟨rfl, (hq.out.setCell (p := ⟨w.heap.size + 1, 0, none⟩) (by simp) _).setCell (p := ⟨w.heap.size + 1, 1, none⟩) (by simp) _⟩
theorem unit_in (k : Nat) (hk : k < 6) (w : World) :
  Calls Tryz.prog 67 #[.int .i64 k] w fun e w' => e = .returned (vE (unitE k)) /\ Below w.heap.size w w' := by
 have hu : (k = 0 /\ unitE k = (1, 0)) ∨ (k = 1 /\ unitE k = (0, 1)) ∨ (k = 2 /\ unitE k = (-1, 1)) ∨ (k = 3 /\ unitE k = (-1, 0)) ∨ (k = 4 /\ unitE k = (0, -1)) ∨ (k = 5 /\ unitE k = (1, -1)) := by
  rcases (show k = 0 ∨ k = 1 ∨ k = 2 ∨ k = 3 ∨ k = 4 ∨ k = 5 by omega) with rfl | rfl | rfl | rfl | rfl | rfl <;> simp [unitE]
 rcases hu with ⟨rfl, e⟩ | ⟨rfl, e⟩ | ⟨rfl, e⟩ | ⟨rfl, e⟩ | ⟨rfl, e⟩ | ⟨rfl, e⟩ <;> rw [e] <;> clear e hk <;>
 ·go_enter Tryz.func67, Tryz.ntmps67
  go_wp2;exact bodyPost_ret (by simp [results, Tryz.results67, go_sem]) rfl ⟨rfl, by
   exact ((Below.refl _ _).alloc (Nat.le_refl _) _).alloc (by simp) _⟩
end
end Go.Proofs.YtpkoapmpknbgoaaGreat
