/- Joined: CbH, CcA, NrU, DfA, DkA, WdE, WdF, Lex8, NfA, NfB, WdW, WdN: contracts and plain laws, each with its own heading below. -/
import Derived.Test.YtjimcjhgjfhbiaaGreatPackBE
import Derived.Laws.BytesString
import Derived.Lib.SlBytesConst
import Derived.Test.YtjimcjhgjfhbiaaGreatPackBC
import Derived.Test.YtjimcjhgjfhbiaaGreatPackBB
import Derived.Lib.Walk
import Derived.Lib.SliceRun
import Derived.Lib.SlicesCompact
import Derived.Deep.LoopGhost
import Derived.Deep.Draws
import Derived.Laws.CopyOwn
import Derived.Lib.OwnBridge
import Derived.OwnWalk
import Derived.Deep.RegionLaw
import Derived.WalkSmall
import Derived.RegionTactic
import Derived.Test.YtjimcjhgjfhbiaaGreatPackBD
import Derived.Laws.BitsAllLaws
/- Strings made of bytes; a law's own cache; contract of apiarylaw24.awake. -/
namespace Go.Proofs.YtjimcjhgjfhbiaaGreat
open Go.RowKit Go.Lib

/-- The string of bytes. -/
def strOf (l : List Int) : ByteArray := l.foldl (fun r n => r.push (UInt8.ofNat n.toNat)) ByteArray.empty
theorem str_at {w : World} {n c : Nat} {ao : Option Addr} {l : List Int} (h : BytesAt w ao l) (hl : l.length = n) : (convert 29 9 (.slice ao n c)).run Tryz.prog w = .ok (.string (strOf l)) w := by
  rw [run_convert_bytes_string w 29 9 5 ao n c Tryz.underlying29 Tryz.underlying5 Tryz.underlying9]
  cases ao with
  | none =>
    have : l = [] := by
      rcases Nat.eq_zero_or_pos l.length with h1 | h1
      · exact List.eq_nil_of_length_eq_zero h1
      · obtain ⟨b, off, e, _⟩ := h h1; cases e
    rw [this]; rfl
  | some a =>
    subst hl
    have h1 := run_loadCells_list (P := Tryz.prog) (w := w) a (byV l) (fun j v hj => bytes_news h a rfl j v hj)
    rw [byV_len] at h1
    exact run_bytesToString w a l.length c l h1
theorem bytesAt_own {w : World} {base n c : Nat} {ao : Option Addr} {l : List Int} (h : w.ownsRow base 5 1 (.slice ao n c) n (byV l)) (hl : l.length = n) : BytesAt w ao l := by
  obtain ⟨ao', c', e, h2, _⟩ := slAt_own (T := fun _ => True) h hl fun _ _ _ _ => trivial
  simp only [Value.slice.injEq] at e
  rw [e.1]; exact h2
/-- A cache of the call's own. -/
def Mine (w : World) (W : World) (r : Nat) (mst N : Nat) (A : List AE) : Prop := ∃ S T, CacheIs W r S T mst N A ∧ Below w.heap.size w W ∧ ∀ k, S k ∨ T k → w.heap.size ≤ k
theorem Mine.below {w W W' : World} {r mst N : Nat} {A : List AE} (h : Mine w W r mst N A) (hb : Below W.heap.size W W') : Mine w W' r mst N A := by
  obtain ⟨S, T, h1, h2, h3⟩ := h
  exact ⟨S, T, h1.below hb, h2.trans (hb.mono h2.size), h3⟩
theorem Mine.pre {w W : World} {r mst N : Nat} {A : List AE} (h : Mine w W r mst N A) : Below w.heap.size w W := by obtain ⟨S, T, h1, h2, h3⟩ := h; exact h2
theorem mine_turn {w W W' : World} {S : Nat → Prop} (h : Below w.heap.size w W) (ht : Turn S W W') (hS : ∀ k, S k → w.heap.size ≤ k) : Below w.heap.size w W' :=
  ⟨ht.1.trans h.os, ht.2.1.trans h.tape, ht.2.2.1.trans h.output, Nat.le_trans h.size ht.2.2.2.1, fun k hk => (ht.2.2.2.2 k (Nat.lt_of_lt_of_le hk h.size) (fun hs => by have := hS k hs; omega)).trans (h.block k hk)⟩
theorem mine_new (n : Int) {w W : World} (hb : Below w.heap.size w W) : Calls Tryz.prog 5 #[.int .i64 n] W fun e w' => ∃ r, e = .returned (.pointer (some ⟨r, 0, none⟩)) ∧ Mine w w' r (min (max n 0) 1000).toNat 0 [] ∧ Below W.heap.size W w' :=
  (kcnew_any n W).mono fun _ _ ⟨r, S, T, h1, h2, h3, h4⟩ => ⟨r, h1, ⟨S, T, h2, hb.trans (h3.mono hb.size), fun k hk => Nat.le_trans hb.size (h4 k hk)⟩, h3⟩
theorem mine_put {w W : World} {r mst N n c : Nat} {A : List AE} {ao : Option Addr} (h : Mine w W r mst N A) (hN : N < 1000000000) (t : TL) (l : List Int) (hl : l.length = n) (hbig : n ≤ 1000000) (hby : BytesAt W ao l) (hz : ao = none → n = 0 ∧ c = 0) :
    Calls Tryz.prog 7 #[.pointer (some ⟨r, 0, none⟩), tlV t, .slice ao n c] W fun e w' => e = .returned (.bool (goodP mst t)) ∧ Mine w w' r mst (N + 1) (if goodP mst t then putA mst A t l else A) := by
  obtain ⟨S, T, h1, h2, h3⟩ := h
  refine (kput_any h1 hN t l hl hbig hby hz).mono ?_
  rintro e w' ⟨rfl, S', T', p1, p2, p3⟩
  refine ⟨rfl, S', T', p1, mine_turn h2 p2 fun k hk => h3 k (.inl hk), fun k hk => ?_⟩
  rcases Nat.lt_or_ge k W.heap.size with h4 | h4
  · exact h3 k (p3 k h4 hk)
  · exact Nat.le_trans h2.size h4
/-- What Get tells of a cache of the call's own. -/
def MGot (w W : World) (r : Nat) (mst N : Nat) (A : List AE) (t : TL) (e : Ending) (w' : World) : Prop :=
  (atA A t = A.length ∧ e = .returned (.tuple #[.slice none 0 0, .bool false]) ∧ Mine w w' r mst (N + 1) A ∧ Below W.heap.size W w') ∨
  ∃ a ao c, A[atA A t]? = some a ∧ a.1 = t ∧ e = .returned (.tuple #[.slice ao a.2.length c, .bool true]) ∧ a.2.length ≤ 1000000 ∧ w'.ownsRow W.heap.size 5 1 (.slice ao a.2.length c) a.2.length (byV a.2) ∧ Mine w w' r mst (N + 1) (A.eraseIdx (atA A t) ++ [a])
theorem mine_get {w W : World} {r mst N : Nat} {A : List AE} (h : Mine w W r mst N A) (hN : N < 1000000000) (t : TL) : Calls Tryz.prog 11 #[.pointer (some ⟨r, 0, none⟩), tlV t] W (MGot w W r mst N A t) := by
  have hm := h
  obtain ⟨S, T, h1, h2, h3⟩ := h
  refine (kget_any h1 hN t).mono ?_
  rintro e w' (⟨p1, p2, p3⟩ | ⟨a, ao, c, p1, p2, p3, p4, p5, p6, p7⟩)
  · obtain ⟨S, T, h1, h2, h3⟩ := hm.below p3
    exact .inl ⟨p1, p2, ⟨S, T, h1.more (Nat.le_succ N), h2, h3⟩, p3⟩
  · exact .inr ⟨a, ao, c, p1, p2, p3, p4, p5, S, T, p6, mine_turn h2 p7 fun k hk => h3 k (.inl hk), h3⟩
theorem mine_len {w W : World} {r mst N : Nat} {A : List AE} (h : Mine w W r mst N A) : Calls Tryz.prog 12 #[.pointer (some ⟨r, 0, none⟩)] W fun e w' => e = .returned (.int .i64 A.length) ∧ W = w' := by
  obtain ⟨S, T, ⟨now, M, vo, c, L, h1, _, h3, _⟩, _⟩ := h
  have e : A.length = L.length := by rw [← h3, List.length_map, h1.perm.length_eq, List.length_map]
  rw [e]
  exact kclen_any h1.row.1
/-- Bytes that have just been written down. -/
theorem bytes_lit (w : World) (l : List Int) (fr : Nat × Nat) : BytesAt (w.alloc (.cells (byV l).toArray 5 fr)) (some ⟨w.heap.size, 0, none⟩) l ∧ Below w.heap.size w (w.alloc (.cells (byV l).toArray 5 fr)) := by
  have e := heap_new w (.cells (byV l).toArray 5 fr) _ rfl
  refine ⟨fun _ => ⟨w.heap.size, 0, rfl, by rw [World.size_alloc]; omega, fun i hi => ?_⟩, (Below.refl _ _).alloc (Nat.le_refl _) _⟩
  have h3 : (w.alloc (.cells (byV l).toArray 5 fr)).cell? ⟨w.heap.size, 0 + i, none⟩ = (byV l).toArray[0 + i]? := by
    unfold World.cell?
    simp only [e]
    rfl
  rw [h3, Nat.zero_add]
  have := byV_get l i hi
  simpa using this
theorem good_a : goodP 1 (0, 0, 0, 0) = true := by kernel_rfl
theorem good_b : goodP 1 (1, 0, 0, 0) = true := by kernel_rfl
theorem put_a : putA 1 [] (0, 0, 0, 0) [97] = [((0, 0, 0, 0), [97])] := by kernel_rfl
theorem put_b : putA 1 [((0, 0, 0, 0), [97])] (1, 0, 0, 0) [98] = [((1, 0, 0, 0), [98])] := by kernel_rfl
theorem str_b : strOf [98] = { data := #[98] } := by kernel_rfl
set_option maxRecDepth 100000 in
set_option maxHeartbeats 1000000 in
theorem awake24_any (w : World) : Calls Tryz.prog 13 #[] w fun e w' => e = .returned (.bool true) ∧ Below w.heap.size w w' := by
  have HN := Lib.hid (mine_new 1 (Below.refl w.heap.size w))
  go_enter Tryz.func13, Tryz.ntmps13
  go_wp2_with fail
  refine HN.out.mono ?_
  rintro e w1 ⟨r, rfl, hm, -⟩
  have hbl : BytesAt (w1.alloc (.cells #[.int .u8 97] 5 (1, 2))) (some ⟨w1.heap.size, 0, none⟩) [97] ∧ Below w1.heap.size w1 (w1.alloc (.cells #[.int .u8 97] 5 (1, 2))) := bytes_lit w1 [97] (1, 2)
  have hcv : (convert 29 29 (.slice (some ⟨w1.heap.size, 0, none⟩) 1 1)).run Tryz.prog (w1.alloc (.cells #[.int .u8 97] 5)) = .ok (.slice (some ⟨w1.heap.size, 0, none⟩) 1 1) (w1.alloc (.cells #[.int .u8 97] 5 (1, 2))) := run_convert_bytes_const w1 29 5 #[.int .u8 97] 1 1 Tryz.underlying29 Tryz.underlying5
  have hp := mine_put (n := 1) (hm.below hbl.2) (by decide) (0, 0, 0, 0) [97] rfl (by decide) hbl.1 (c := 1) (fun h => by cases h)
  rw [show (min (max 1 0) 1000 : Int).toNat = 1 from rfl, good_a, put_a] at hp
  have HP := Lib.hid hp
  clear hm HN hp hbl
  go_wp2_with fail
  clear hcv
  refine HP.out.mono ?_
  rintro e w2 ⟨rfl, hm⟩
  have hbl : BytesAt (w2.alloc (.cells #[.int .u8 98] 5 (1, 2))) (some ⟨w2.heap.size, 0, none⟩) [98] ∧ Below w2.heap.size w2 (w2.alloc (.cells #[.int .u8 98] 5 (1, 2))) := bytes_lit w2 [98] (1, 2)
  have hcv : (convert 29 29 (.slice (some ⟨w2.heap.size, 0, none⟩) 1 1)).run Tryz.prog (w2.alloc (.cells #[.int .u8 98] 5)) = .ok (.slice (some ⟨w2.heap.size, 0, none⟩) 1 1) (w2.alloc (.cells #[.int .u8 98] 5 (1, 2))) := run_convert_bytes_const w2 29 5 #[.int .u8 98] 1 1 Tryz.underlying29 Tryz.underlying5
  have hp := mine_put (n := 1) (hm.below hbl.2) (by decide) (1, 0, 0, 0) [98] rfl (by decide) hbl.1 (c := 1) (fun h => by cases h)
  rw [good_b] at hp
  have hp' := hp
  simp only [if_true] at hp'
  rw [put_b] at hp'
  have HP2 := Lib.hid hp'
  clear hm HP hp hp' hbl
  go_wp2_with fail
  clear hcv
  refine HP2.out.mono ?_
  rintro e w3 ⟨rfl, hm⟩
  have HG := Lib.hid (mine_get hm (by decide) (1, 0, 0, 0))
  clear hm HP2
  go_wp2_with fail
  refine HG.out.mono ?_
  rintro e w4 (⟨p1, _, _⟩ | ⟨a, ao, c, p1, p2, rfl, p4, p5, p6⟩)
  · exact absurd p1 (by decide)
  obtain rfl : ((1, 0, 0, 0), [98]) = a := by
    have h9 : some (((1, 0, 0, 0), [98]) : AE) = some a := p1
    exact Option.some.inj h9
  rw [show (List.eraseIdx [(((1, 0, 0, 0), [98]) : AE)] (atA [((1, 0, 0, 0), [98])] (1, 0, 0, 0)) ++ [((1, 0, 0, 0), [98])]) = [((1, 0, 0, 0), [98])] by kernel_rfl] at p6
  have HO := Lib.hid p5
  have HG2 := Lib.hid (mine_get p6 (by decide) (0, 0, 0, 0))
  clear p1 p2 p4 p5 p6 HG
  go_wp2_with fail
  refine HG2.out.mono ?_
  rintro e w5 (⟨_, rfl, p3, hb5⟩ | ⟨a, ao, c, p1, _⟩)
  case inr => cases (show (none : Option AE) = some a from p1)
  have HL := Lib.hid (mine_len p3)
  have hcs := str_at (bytesAt_own (own_later HO.out hb5) rfl) (n := 1) (c := c) rfl
  rw [str_b] at hcs
  have HB5 : Hid (Below w.heap.size w w5) := p3.pre
  clear p3 hb5 HO HG2
  go_wp2_with fail
  refine HL.out.mono ?_
  rintro e w6 ⟨rfl, rfl⟩
  go_wp2
  go_ret
  exact ⟨rfl, HB5.out⟩
end Go.Proofs.YtjimcjhgjfhbiaaGreat
/- A row of pointers to structs in a field of a struct: contract of container/heap's Init (whatever the order ahead of it). -/
namespace Go.Proofs.YtjimcjhgjfhbiaaGreat
open Go.RowKit Go.Lib

/-- In order from a on. -/
def FromK (a n : Nat) (L : List KE) : Prop := ∀ j, 0 < j → j < n → a ≤ parK j → lessK (kG L j) (kG L (parK j)) = false
theorem off_fromK {n a : Nat} {L : List KE} {i c : Nat} (hn : n ≤ L.length) (hai : a ≤ i) (h1 : ∀ j, 0 < j → j < n → a ≤ parK j → parK j ≠ i → lessK (kG L j) (kG L (parK j)) = false)
    (h2 : ∀ j, 0 < j → j < n → parK j = i → 0 < i → a ≤ parK i → lessK (kG L j) (kG L (parK i)) = false) (hlt : 2 * i + 1 < n) (hc : childFK L i n = c) (hl : lessK (kG L c) (kG L i) = true) :
    (∀ j, 0 < j → j < n → a ≤ parK j → parK j ≠ c → lessK (kG (swapK L i c) j) (kG (swapK L i c) (parK j)) = false) ∧ ∀ j, 0 < j → j < n → parK j = c → 0 < c → a ≤ parK c → lessK (kG (swapK L i c) j) (kG (swapK L i c) (parK c)) = false := by
  have hcp : parK c = i := by rw [← hc]; exact child_parK
  have hcn : c < n := by rw [← hc]; exact childFK_lt hlt
  have hic : i < c := by rw [← hc]; exact childFK_gt L i n
  refine ⟨fun j g1 g2 ga h3 => ?_, fun j g1 g2 h3 _ _ => ?_⟩
  · rw [kG_swap (by omega) (by omega), kG_swap (by omega) (by omega), if_neg h3]
    by_cases e1 : j = c
    · subst e1
      rw [if_pos rfl, if_pos hcp]
      exact less_asymmK hl
    · rw [if_neg e1]
      by_cases e2 : j = i
      · subst e2
        have hpj : ¬ parK j = j := by unfold parK; omega
        rw [if_pos rfl, if_neg hpj]
        exact h2 c (by omega) hcn hcp g1 ga
      · rw [if_neg e2]
        by_cases e3 : parK j = i
        · rw [if_pos e3, ← hc]
          exact child_leastK g1 g2 e3 (by rw [hc]; exact e1)
        · rw [if_neg e3]
          exact h1 j g1 g2 ga e3
  · have hji : ¬ j = i := by unfold parK at h3; omega
    have hjc : ¬ j = c := by unfold parK at h3; omega
    rw [kG_swap (by omega) (by omega), kG_swap (by omega) (by omega), hcp, if_neg hjc, if_neg hji, if_neg (show ¬ i = c by omega), if_pos rfl]
    have := h1 j g1 g2 (by rw [h3]; omega) (by rw [h3]; omega)
    rwa [h3] at this
theorem down_fromK {n a : Nat} : ∀ (m i : Nat) (L : List KE), n - i ≤ m → n ≤ L.length → a ≤ i → (∀ j, 0 < j → j < n → a ≤ parK j → parK j ≠ i → lessK (kG L j) (kG L (parK j)) = false) → (∀ j, 0 < j → j < n → parK j = i → 0 < i → a ≤ parK i → lessK (kG L j) (kG L (parK i)) = false) → FromK a n (downFK L i n).1 := by
  intro m
  induction m with
  | zero =>
    intro i L hm hn ha h1 h2
    rw [downFK_end (by omega)]
    exact fun j h3 h4 h5 => h1 j h3 h4 h5 (by unfold parK; omega)
  | succ m ih =>
    intro i L hm hn ha h1 h2
    by_cases he : n ≤ 2 * i + 1
    · rw [downFK_end he]
      exact fun j h3 h4 h5 => h1 j h3 h4 h5 (by unfold parK; omega)
    · obtain ⟨c, hc⟩ : ∃ c, childFK L i n = c := ⟨_, rfl⟩
      have hic : i < c := by rw [← hc]; exact childFK_gt L i n
      cases hl : lessK (kG L c) (kG L i) with
      | false =>
        rw [downFK_stop hc hl]
        intro j h3 h4 h5
        by_cases e : parK j = i
        · rw [e]
          by_cases e2 : j = c
          · rw [e2]; exact hl
          · have := child_leastK (L := L) h3 h4 e (by rw [hc]; exact e2)
            rw [hc] at this
            exact less_ntransK this hl
        · exact h1 j h3 h4 h5 e
      | true =>
        rw [downFK_step he hc hl]
        have hs := off_fromK hn ha h1 h2 (by omega) hc hl
        exact ih c _ (by omega) (by rw [swapK_length]; exact hn) (by omega) hs.1 hs.2
theorem down_oneK {n k : Nat} {L : List KE} (hn : n ≤ L.length) (h : FromK (k + 1) n L) : FromK k n (downFK L k n).1 :=
  down_fromK (n - k) k L (Nat.le_refl _) hn (Nat.le_refl _) (fun j h1 h2 h3 h4 => h j h1 h2 (by omega)) fun j h1 h2 h3 h4 h5 => by
    exfalso; revert h5; unfold parK; omega
set_option maxRecDepth 100000 in
set_option maxHeartbeats 1000000 in
theorem hinitK_any {w : World} {B r ro c : Nat} {vo : Option Addr} {L : List KE} (h : RowK w B r ro vo c L) :
    Calls Tryz.prog 36 #[ifcK r ro] w fun e w' => e = .returned (.tuple #[]) ∧ ∃ M : List KE, M.Perm L ∧ HeapK M.length M ∧ RowK w' B r ro vo c M ∧ TK r ro vo w w' := by
  obtain ⟨n, hn⟩ : ∃ n, L.length = n := ⟨_, rfl⟩
  have mth1 := methK_len (h.head hn)
  have HLN := Lib.hid (klen_any vo n c w)
  have hlen := h.len
  rw [hn] at hlen
  have HN := Lib.hid hn
  have HH := Lib.hid h
  clear h hn
  unfold ifcK
  go_enter Tryz.func36, Tryz.ntmps36
  go_wp2_with fail
  refine HLN.out.mono ?_
  rintro e w1 ⟨rfl, rfl⟩
  clear mth1
  go_wp2
  go_loopw [3] (fun iv wr => ∃ i : Int, -1 ≤ i ∧ 2 * i + 2 ≤ n ∧ iv = .int .i64 i ∧ Hid (∃ M : List KE, M.Perm L ∧ FromK (i + 1).toNat n M ∧ RowK wr B r ro vo c M ∧ TK r ro vo w wr)) (fun iv _ => (intOf iv + 1).toNat)
  case atStart => exact ⟨(n : Int) / 2 - 1, by omega, by omega, by go_num, L, List.Perm.refl _, fun j h1 h2 h3 => by exfalso; revert h3; unfold parK; omega, HH.out, TK.refl _ _ _ _⟩
  case round =>
    obtain ⟨i, hi1, hi2, rfl, HM⟩ := hrel
    obtain ⟨M, hp, hf, hr, ht⟩ := HM.out
    have hl : M.length = n := hp.length_eq.trans HN.out
    clear HM
    by_cases h0 : 0 ≤ i
    · obtain ⟨k, rfl⟩ : ∃ k : Nat, i = k := ⟨i.toNat, by omega⟩
      have HD := Lib.hid (downK_any hr (i0 := k) (n := n) (by omega) (by omega))
      have hf2 : FromK (k + 1) n M := by rwa [show ((k : Int) + 1).toNat = k + 1 by omega] at hf
      have HF := Lib.hid (down_oneK (by omega) hf2)
      have HP := Lib.hid (((down_permK (n - k) k M (Nat.le_refl _) (by omega)).1).trans hp)
      have HT := Lib.hid ht
      unfold ifcK at HD
      clear hp hf hr hl hf2 ht
      go_wp2_with fail
      refine HD.out.mono ?_
      rintro e w2 ⟨rfl, hr2, ht2⟩
      have HM2 : Hid (∃ M' : List KE, M'.Perm L ∧ FromK (((k : Int) - 1) + 1).toNat n M' ∧ RowK w2 B r ro vo c M' ∧ TK r ro vo w w2) := ⟨_, HP.out, by rw [show (((k : Int) - 1) + 1).toNat = k by omega]; exact HF.out, hr2, HT.out.trans ht2 fun _ _ h => h⟩
      clear hr2 ht2 HD
      go_wp2
      go_roundw
      case rel => exact ⟨(k : Int) - 1, by omega, by omega, by go_num, HM2.out⟩
      case measure => simp [intOf]
    · obtain rfl : i = -1 := by omega
      have HE : Hid (∃ M : List KE, M.Perm L ∧ HeapK M.length M ∧ RowK wr B r ro vo c M ∧ TK r ro vo w wr) := ⟨M, hp, by rw [hl]; exact fun j h1 h2 => hf j h1 h2 (Nat.zero_le _), hr, ht⟩
      clear hp hf hr hl ht
      go_wp2
      go_end0
      exact ⟨rfl, HE.out⟩
end Go.Proofs.YtjimcjhgjfhbiaaGreat
/- Lists of words in memory; the plain set; apiaryref1's Has, Same, Set. (Put together by gen_nr.py out of my texts on package cells.) -/
namespace Go.Proofs.YtjimcjhgjfhbiaaGreat
open Go.RowKit Go.Lib Go.Sort

end Go.Proofs.YtjimcjhgjfhbiaaGreat
/- For the library's slices.IndexFunc and slices.DeleteFunc at []uint64: what is asked of the function, and what the loops keep. -/
namespace Go.Proofs.YtjimcjhgjfhbiaaGreat
open Go.RowKit Go.Lib

theorem own_setCells {base n cap size g : Nat} {e : TypeId} : ∀ (vs : List Value) (o : Nat) (w : World) (xs : List Value), w.ownsRow base e size (.slice (some ⟨g, 0, none⟩) n cap) n xs → ∃ ys, (w.setCells g o vs).ownsRow base e size (.slice (some ⟨g, 0, none⟩) n cap) n ys ∧ ys.take o = xs.take o
  | [], _, _, xs, h => ⟨xs, h, rfl⟩
  | v :: r, o, _, xs, h => by
    obtain ⟨ys, h1, h2⟩ := own_setCells r (o + 1) _ _ (own_set h o v)
    refine ⟨ys, h1, ?_⟩
    have := congrArg (List.take o) h2
    rw [List.take_take, List.take_take, Nat.min_eq_left (by omega), List.take_set_of_le (Nat.le_refl _)] at this
    exact this
theorem turn_setCells {g : Nat} : ∀ (vs : List Value) (o : Nat) (w0 w : World), Turn (fun k => k = g) w0 w → Turn (fun k => k = g) w0 (w.setCells g o vs)
  | [], _, _, _, h => h
  | v :: r, o, w0, _, h => turn_setCells r (o + 1) w0 _ (Turn.setCell (S := fun k => k = g) (a := ⟨g, o, none⟩) h rfl v)
end Go.Proofs.YtjimcjhgjfhbiaaGreat
/- Contracts of the library's slices.IndexFunc and slices.DeleteFunc at a row of pointers (cache.row) with the function (*cache.Cache).Clear$1. (Printed by gen_dk.py.) -/
namespace Go.Proofs.YtjimcjhgjfhbiaaGreat
open Go.RowKit Go.Lib

/-- Pointers in memory. -/
def KAt (w : World) (ao : Option Addr) (l : List KE) : Prop := 0 < l.length → ∃ b off, ao = some ⟨b, off, none⟩ ∧ b < w.heap.size ∧ ∀ i, i < l.length → w.cell? ⟨b, off + i, none⟩ = some (kP (kG l i))
theorem KAt.below {w w' : World} {ao : Option Addr} {l : List KE} (h : KAt w ao l) (hb : Below w.heap.size w w') : KAt w' ao l := fun h0 => by
  obtain ⟨b, off, e, hlt, hc⟩ := h h0
  exact ⟨b, off, e, Nat.lt_of_lt_of_le hlt hb.size, fun i hi => (hb.cell (p := ⟨b, off + i, none⟩) hlt).trans (hc i hi)⟩
theorem kAt_own {w : World} {base n c : Nat} {ao : Option Addr} {l : List KE} (h : w.ownsRow base 64 1 (.slice ao n c) n (kV l)) : KAt w ao l := fun h0 => by
  have hl : l.length = n := by have := h.1; rw [kV_length] at this; omega
  obtain ⟨ao', c', e, _, hc⟩ := own_form h
  cases e
  obtain ⟨g, rfl, _, hg, hcell⟩ := hc (by omega)
  exact ⟨g, 0, rfl, hg, fun i hi => by rw [Nat.zero_add]; exact hcell i _ (kV_get hi)⟩
def AskT (g : Nat) (cb : Array Value) (p : KE → Bool) (w : World) (blk : Nat) (l : List KE) : Prop :=
  ∀ (W : World) (x : KE), Turn (fun k => k = blk) w W → x ∈ l → Calls Tryz.prog g (#[kP x] ++ cb) W fun e w' => e = .returned (.bool (p x)) ∧ Below W.heap.size W w'
/-- The first that it says yes to; the length, if none. -/
def fstT (p : KE → Bool) (l : List KE) : Nat := l.findIdx p
theorem fstT_at {p : KE → Bool} {l : List KE} {k : Nat} (hk : k < l.length) (h1 : ∀ j, j < k → p (l.getD j (0, 0)) = false) (h2 : p (l.getD k (0, 0)) = true) : fstT p l = k := by
  unfold fstT
  rw [List.findIdx_eq hk]
  refine ⟨by rw [List.getD_eq_getElem?_getD, List.getElem?_eq_getElem hk] at h2; exact h2, fun j hj => ?_⟩
  have := h1 j hj
  rw [List.getD_eq_getElem?_getD, List.getElem?_eq_getElem (show j < l.length by omega)] at this
  exact this
theorem fstT_none {p : KE → Bool} {l : List KE} (h1 : ∀ j, j < l.length → p (l.getD j (0, 0)) = false) : fstT p l = l.length ∧ l.filter (fun x => !p x) = l := by
  have h : ∀ x ∈ l, p x = false := fun x hx => by
    obtain ⟨j, hj, rfl⟩ := List.mem_iff_getElem.1 hx
    have := h1 j hj
    rwa [List.getD_eq_getElem?_getD, List.getElem?_eq_getElem hj] at this
  refine ⟨?_, List.filter_eq_self.2 fun x hx => by rw [h x hx]; rfl⟩
  unfold fstT
  exact List.findIdx_eq_length_of_false h
/-- What IndexFunc tells. -/
def idxT (p : KE → Bool) (l : List KE) : Int := if fstT p l < l.length then (fstT p l : Int) else -1
/-- At the head of the loop that strikes: j have been looked at, i of them stay. -/
def DkI (p : KE → Bool) (l : List KE) (j i : Nat) (dk : List KE) : Prop :=
  dk.length = l.length ∧ i < j ∧ (l.take j).filter (fun x => !p x) = dk.take i ∧ ∀ t, j ≤ t → dk[t]? = l[t]?
theorem dk_take {l : List KE} {j : Nat} (hj : j < l.length) : l.take (j + 1) = l.take j ++ [l.getD j (0, 0)] := by
  rw [List.take_add_one, List.getElem?_eq_getElem hj, List.getD_eq_getElem?_getD, List.getElem?_eq_getElem hj]; rfl
theorem dk_start {p : KE → Bool} {l : List KE} {k : Nat} (hk : k < l.length) (h1 : ∀ j, j < k → p (l.getD j (0, 0)) = false) (h2 : p (l.getD k (0, 0)) = true) : DkI p l (k + 1) k l := by
  refine ⟨rfl, Nat.lt_succ_self _, ?_, fun _ _ => rfl⟩
  rw [dk_take hk, List.filter_append, List.filter_cons_of_neg (by rw [h2]; simp), List.filter_nil, List.append_nil]
  refine List.filter_eq_self.2 fun x hx => ?_
  obtain ⟨t, ht, rfl⟩ := List.mem_iff_getElem.1 hx
  have ht2 : t < k := by simp at ht; omega
  have := h1 t ht2
  rw [List.getD_eq_getElem?_getD, List.getElem?_eq_getElem (show t < l.length by omega)] at this
  rw [List.getElem_take, show p l[t] = false from this]; rfl
theorem dk_keep {p : KE → Bool} {l dk : List KE} {j i : Nat} (h : DkI p l j i dk) (hj : j < l.length) (hp : p (l.getD j (0, 0)) = false) : DkI p l (j + 1) (i + 1) (dk.set i (l.getD j (0, 0))) := by
  obtain ⟨h1, h2, h3, h4⟩ := h
  refine ⟨by simpa using h1, by omega, ?_, fun t ht => ?_⟩
  · rw [dk_take hj, List.filter_append, h3, List.filter_cons_of_pos (by rw [hp]; rfl), List.filter_nil, List.take_add_one]
    rw [List.take_set_of_le (Nat.le_refl _), List.getElem?_set_self (by omega)]; rfl
  · rw [List.getElem?_set_ne (by omega)]; exact h4 t (by omega)
theorem dk_skip {p : KE → Bool} {l dk : List KE} {j i : Nat} (h : DkI p l j i dk) (hj : j < l.length) (hp : p (l.getD j (0, 0)) = true) : DkI p l (j + 1) i dk := by
  obtain ⟨h1, h2, h3, h4⟩ := h
  refine ⟨h1, by omega, ?_, fun t ht => h4 t (by omega)⟩
  rw [dk_take hj, List.filter_append, h3, List.filter_cons_of_neg (by rw [hp]; simp), List.filter_nil, List.append_nil]
theorem kV_take (l : List KE) (i : Nat) : kV (l.take i) = (kV l).take i := by unfold kV; rw [List.map_take]
theorem own_cellsT {w : World} {base g n c : Nat} {l : List KE} (h : w.ownsRow base 64 1 (.slice (some ⟨g, 0, none⟩) n c) n (kV l)) (hl : l.length = n) : g < w.heap.size ∧ ∀ i, i < n → w.cell? ⟨g, i, none⟩ = some (kP (kG l i)) ∧ w.frozen? ⟨g, i, none⟩ = false := by
  obtain ⟨cur, hh, _⟩ := own_block h
  refine ⟨(Array.getElem?_eq_some_iff.1 hh).1, fun i hi => ⟨?_, h.frozenAt i⟩⟩
  rw [h.cellAt i (by omega), kV_get (by omega)]
set_option maxRecDepth 100000 in
set_option maxHeartbeats 4000000 in
theorem kcindex_any (cb : Array Value) (p : KE → Bool) (ao : Option Addr) (n c : Nat) (l : List KE) (w : World) (blk : Nat) (hn : l.length = n) (hbig : n ≤ 1000000)
    (hw : KAt w ao l) (ha : AskT 32 cb p w blk l) :
    Calls Tryz.prog 46 #[.slice ao n c, .func (.func 32) #[] cb] w fun e w' => e = .returned (.int .i64 (idxT p l)) ∧ Below w.heap.size w w' := by
  have HW := Lib.hid hw
  have HA := Lib.hid ha
  have HN := Lib.hid hn
  have HY : Hid (∀ k, k < l.length → (∀ j, j < k → p (kG l j) = false) → p (kG l k) = true → idxT p l = k) := fun k hk h1 h2 => by
    unfold idxT; rw [fstT_at hk h1 h2, if_pos hk]
  have HZ : Hid ((∀ j, j < l.length → p (kG l j) = false) → idxT p l = -1) := fun h => by
    unfold idxT; rw [(fstT_none h).1, if_neg (Nat.lt_irrefl _)]
  generalize idxT p l = res at *
  clear hw ha hn
  go_enter Tryz.func46, Tryz.ntmps46
  go_upto_region 2 with (fail)
  go_loopg [5, 8] n (fun q _ s8 wr => ∃ k : Nat, k ≤ n ∧ n - k ≤ q ∧ s8 = .int .i64 k ∧ Hid (Below w.heap.size w wr ∧ ∀ j, j < k → p (kG l j) = false))
  case atStart => exact ⟨0, by omega, by omega, by go_num, Below.refl _ _, fun j hj => by omega⟩
  case round =>
    obtain ⟨k, hk, hq, rfl, HR⟩ := hrel
    by_cases hlt : k < n
    · obtain ⟨b, off, rfl, hb, hc⟩ := (HW.out.below HR.out.1) (by have := HN.out; omega)
      have c0 := hc k (by have := HN.out; omega)
      have hki : (k : Int) < (n : Int) := by omega
      have hcall := HA.out wr (kG l k) (Turn.of_below HR.out.1) (kG_mem (by have := HN.out; omega))
      obtain ⟨x, hx⟩ : ∃ x, kG l k = x := ⟨_, rfl⟩
      have HX := Lib.hid hx
      rw [hx] at c0 hcall
      clear hc hx hb
      unfold kP at *
      cases hp : p x with
      | true =>
        rw [hp] at hcall
        go_wp2_with (go_at_call 32; refine hcall.mono ?_; rintro e w2 ⟨rfl, hb2⟩)
        go_ret
        exact ⟨by rw [HY.out k (by have := HN.out; omega) HR.out.2 (by show p (kG _ _) = _; rw [HX.out]; exact hp)]; rfl, HR.out.1.trans (hb2.mono HR.out.1.size)⟩
      | false =>
        rw [hp] at hcall
        go_wp2_with (go_at_call 32; refine hcall.mono ?_; rintro e w2 ⟨rfl, hb2⟩)
        go_roundg (n - (k + 1))
        case measure => omega
        case rel =>
          refine ⟨k + 1, by omega, Nat.le_refl _, by go_num, HR.out.1.trans (hb2.mono HR.out.1.size), fun j hj => ?_⟩
          by_cases e : j = k
          · subst e; rw [HX.out]; exact hp
          · exact HR.out.2 j (by omega)
    · obtain rfl : k = n := by omega
      have hki : ¬ (k : Int) < (k : Int) := by omega
      go_wp2
      go_ret
      exact ⟨by rw [HZ.out fun j hj => HR.out.2 j (by have := HN.out; omega)]; rfl, HR.out.1⟩
set_option maxRecDepth 100000 in
set_option maxHeartbeats 8000000 in
theorem kcdelete_any (cb : Array Value) (p : KE → Bool) (ao : Option Addr) (n c : Nat) (l : List KE) (w : World) (B blk : Nat) (hn : l.length = n) (hbig : n ≤ 1000000)
    (_hB : B ≤ w.heap.size) (ho : w.ownsRow B 64 1 (.slice ao n c) n (kV l)) (ha : AskT 32 cb p w blk l) (hblk : ∀ g o s, ao = some ⟨g, o, s⟩ → g = blk) :
    Calls Tryz.prog 35 #[.slice ao n c, .func (.func 32) #[] cb] w fun e w' => e = .returned (.slice ao (l.filter fun x => !p x).length c) ∧ w'.ownsRow B 64 1 (.slice ao (l.filter fun x => !p x).length c) (l.filter fun x => !p x).length (kV (l.filter fun x => !p x)) ∧ Turn (fun k => ao = some ⟨k, 0, none⟩) w w' := by
  have v23 : ∀ w, (zeroValue 64).run Tryz.prog w = .ok (.pointer none) w := fun _ => by kernel_rfl
  have HIF := Lib.hid (kcindex_any cb p ao n c l w blk hn hbig (kAt_own ho) ha)
  have HO := Lib.hid ho
  have HA := Lib.hid ha
  have HN := Lib.hid hn
  have HBK := Lib.hid hblk
  by_cases hall : ∀ j, j < l.length → p (kG l j) = false
  · have h1 := fstT_none hall
    have e1 : idxT p l = -1 := by unfold idxT; rw [h1.1, if_neg (Nat.lt_irrefl _)]
    rw [h1.2]
    rw [e1] at HIF
    rw [hn]
    clear ho ha hn hblk hall h1 e1
    go_enter Tryz.func35, Tryz.ntmps35
    go_wp2_with fail
    refine HIF.out.mono ?_
    rintro e w1 ⟨rfl, hb1⟩
    go_wp2
    go_ret
    exact ⟨rfl, own_later HO.out hb1, Turn.of_below hb1⟩
  · obtain ⟨k0, hk0, hno, hyes⟩ : ∃ k, k < l.length ∧ (∀ j, j < k → p (kG l j) = false) ∧ p (kG l k) = true := by
      by_cases h : fstT p l < l.length
      · refine ⟨fstT p l, h, fun j hj => ?_, ?_⟩
        · have := List.not_of_lt_findIdx (p := p) (xs := l) hj
          unfold kG; rw [List.getD_eq_getElem?_getD, List.getElem?_eq_getElem (Nat.lt_trans hj h)]
          simpa using this
        · unfold kG; rw [List.getD_eq_getElem?_getD, List.getElem?_eq_getElem h]
          exact List.findIdx_getElem (w := h)
      · exact absurd (fun j hj => by
          have h2 := List.not_of_lt_findIdx (p := p) (xs := l) (i := j) (by unfold fstT at h; omega)
          unfold kG; rw [List.getD_eq_getElem?_getD, List.getElem?_eq_getElem hj]
          simpa using h2) hall
    have e1 : idxT p l = k0 := by unfold idxT; rw [fstT_at hk0 hno hyes, if_pos hk0]
    rw [e1] at HIF
    obtain ⟨g, rfl⟩ : ∃ g, ao = some ⟨g, 0, none⟩ := by
      obtain ⟨_, _, e, _, _⟩ := own_form ho
      rcases ho.2 with ⟨hv, h0⟩ | ⟨g, cap, cur, hv, _⟩
      · omega
      · cases hv; exact ⟨g, rfl⟩
    obtain rfl : g = blk := hblk g 0 none rfl
    have HS := Lib.hid (dk_start hk0 hno hyes)
    have hk0n : k0 < n := by omega
    obtain ⟨F, hF⟩ : ∃ F, (l.filter fun x => !p x) = F := ⟨_, rfl⟩
    have HF := Lib.hid hF
    obtain ⟨m, hm⟩ : ∃ m, F.length = m := ⟨_, rfl⟩
    have HM := Lib.hid hm
    rw [hF, hm]
    have hgw := (own_cellsT ho hn).1
    clear ho ha hn hblk hall e1 hno hyes hk0 hF hm
    go_enter Tryz.func35, Tryz.ntmps35
    go_wp2_with fail
    refine HIF.out.mono ?_
    rintro e w1 ⟨rfl, hb1⟩
    have HB1 := Lib.hid hb1
    have hgw1 : g < w1.heap.size := Nat.lt_of_lt_of_le hgw hb1.size
    clear hb1
    have hne1 : ((k0 : Int) == -1) = false := beq_eq_false_iff_ne.2 (by omega)
    go_upto_region 5 with (fail)
    go_loopg [5, 6, 7] n (fun q s5 s6 _ wr => ∃ (i j : Nat) (dk : List KE), j ≤ n ∧ i < j ∧ n - j ≤ q ∧ s5 = .int .i64 i ∧ s6 = .int .i64 j ∧ Hid (DkI p l j i dk ∧ wr.ownsRow B 64 1 (.slice (some ⟨g, 0, none⟩) n c) n (kV dk) ∧ Turn (fun k => k = g) w wr))
    case atStart => exact ⟨k0, k0 + 1, l, by omega, by omega, by omega, rfl, by go_num, HS.out, own_later HO.out HB1.out, Turn.of_below HB1.out⟩
    case round =>
      obtain ⟨i, j, dk, hj, hij, hq, rfl, rfl, HR⟩ := hrel
      have hdl : dk.length = n := by rw [HR.out.1.1]; exact HN.out
      obtain ⟨hgr, hcells⟩ := own_cellsT HR.out.2.1 hdl
      by_cases hlt : j < n
      · obtain ⟨c0, _⟩ := hcells j hlt
        obtain ⟨c1, f1⟩ := hcells i (by omega)
        have e0 : kG dk j = kG l j := by unfold kG; rw [List.getD_eq_getElem?_getD, HR.out.1.2.2.2 j (Nat.le_refl _), ← List.getD_eq_getElem?_getD]
        rw [e0] at c0
        have hcall := HA.out wr (kG l j) HR.out.2.2 (kG_mem (by have := HN.out; omega))
        have hki : (j : Int) < (n : Int) := by omega
        obtain ⟨x, hx⟩ : ∃ x, kG l j = x := ⟨_, rfl⟩
        have HX := Lib.hid hx
        rw [hx] at c0 hcall
        clear hcells e0 hx hdl
        unfold kP at *
        cases hp : p x with
        | true =>
          rw [hp] at hcall
          go_wp2_with (go_at_call 32; refine hcall.mono ?_; rintro e w2 ⟨rfl, hb2⟩)
          go_roundg (n - (j + 1))
          case measure => omega
          case rel => exact ⟨i, j + 1, dk, by omega, by omega, Nat.le_refl _, rfl, by go_num, dk_skip HR.out.1 (by have := HN.out; omega) (by show p (kG _ _) = _; rw [HX.out]; exact hp), own_later HR.out.2.1 hb2, HR.out.2.2.trans (Turn.of_below (S := fun k => k = g) hb2) fun _ _ h => h⟩
        | false =>
          rw [hp] at hcall
          go_upto_region 8 with (fail)
          go_wp2_with (go_at_call 32; refine hcall.mono ?_; rintro e w2 ⟨rfl, hb2⟩; have c2 : w2.cell? ⟨g, i, none⟩ = some (.pointer (some ⟨(kG dk i).1, 0, none⟩)) := (hb2.cell (p := ⟨g, i, none⟩) hgr).trans c1; have f2 : w2.frozen? ⟨g, i, none⟩ = false := (own_later HR.out.2.1 hb2).frozenAt i)
          go_roundg (n - (j + 1))
          case measure => omega
          case rel =>
            refine ⟨i + 1, j + 1, dk.set i x, by omega, by omega, Nat.le_refl _, by go_num, by go_num, ?_, ?_, ?_⟩
            · have := dk_keep HR.out.1 (by have := HN.out; omega) (by show p (kG _ _) = _; rw [HX.out]; exact hp)
              rw [show l.getD j (0, 0) = x from HX.out] at this; exact this
            · rw [kV_set]; exact own_drew (own_set (own_later HR.out.2.1 hb2) i _)
            · exact (Turn.setCell (S := fun k => k = g) (a := ⟨g, i, none⟩) (HR.out.2.2.trans (Turn.of_below (S := fun k => k = g) hb2) fun _ _ h => h) rfl _).drew
      · obtain rfl : j = n := by omega
        have hki : ¬ (j : Int) < (j : Int) := by omega
        have hic : j ≤ c := by
          obtain ⟨cur, _, _, h, _⟩ := own_block HR.out.2.1
          exact h
        have hcl : ∀ ty, (Builtin.clear_ #[55] ty #[.slice (some ⟨g, i, none⟩) (j - i) (c - i)]).run Tryz.prog wr = .ok (.tuple #[]) (wr.setCells g i (List.replicate (j - i) (.pointer none))) :=
          fun ty => Lib.run_clear_slice wr _ _ ty _ Tryz.underlying55 v23 rfl rfl g i _ _ (by omega) (fun t ht => by rw [(hcells (i + t) (by omega)).1]; rfl) (fun t ht => (hcells (i + t) (by omega)).2)
        have HFI : Hid (F = dk.take i ∧ F.length = i) := by
          have e2 := HR.out.1.2.2.1
          rw [List.take_of_length_le (by rw [HN.out]; exact Nat.le_refl _), HF.out] at e2
          exact ⟨e2, by rw [e2, List.length_take, hdl]; omega⟩
        have HE : Hid ((wr.setCells g i (List.replicate (j - i) (.pointer none))).ownsRow B 64 1 (.slice (some ⟨g, 0, none⟩) i c) i (kV F) ∧ Turn (fun k => k = g) w (wr.setCells g i (List.replicate (j - i) (.pointer none)))) := by
          obtain ⟨ys, h1, h2⟩ := own_setCells (List.replicate (j - i) (.pointer none)) i _ _ HR.out.2.1
          refine ⟨?_, turn_setCells _ _ _ _ HR.out.2.2⟩
          have h3 := own_take h1 (m := i) (by omega)
          rw [Nat.mul_one, h2, ← kV_take, ← HFI.out.1] at h3
          exact h3
        have him : i = m := by rw [← HM.out]; exact HFI.out.2.symm
        clear hcells hdl
        subst him
        go_wp2
        go_ret
        exact ⟨rfl, HE.out.1, HE.out.2.2.2.2.1 |> fun h5 => ⟨HE.out.2.1, HE.out.2.2.1, HE.out.2.2.2.1, h5, fun k hk hs => HE.out.2.2.2.2.2 k hk fun e => hs (by rw [e])⟩⟩
end Go.Proofs.YtjimcjhgjfhbiaaGreat
/- The contract of eisen.Round, and of package cell: split, digit. -/
namespace Go.Proofs.YtjimcjhgjfhbiaaGreat
open Go.RowKit Go.Lib Wd

theorem floor_in (a d : Int) (hd : 0 < d) (hd2 : d ≤ 4611686018427387903) (h1 : -4611686018427387904 ≤ a) (h2 : a ≤ 4611686018427387903) (w : World) :
    Calls Tryz.prog 113 #[.int .i64 a, .int .i64 d] w fun e w' => e = .returned (.tuple #[.int .i64 (a / d), .int .i64 (a % d), .bool true]) ∧ Below w.heap.size w w' :=
  (floor_any a d hd hd2 h1 h2 w).mono fun _ _ ⟨he, n, hn⟩ => ⟨he, by rw [hn]; exact below_drewN (Below.refl _ _) n⟩
theorem Two2.put {w : World} {g : Nat} {u v : Value} (h : Two2 w g u v) (x y : Value) : Two2 ((w.setCell ⟨g, 0, none⟩ x).setCell ⟨g, 1, none⟩ y) g x y ∧ Turn (fun q => q = g) w ((w.setCell ⟨g, 0, none⟩ x).setCell ⟨g, 1, none⟩ y) := by
  obtain ⟨⟨h0, h1⟩, f0, f1⟩ := h
  refine ⟨⟨⟨?_, ?_⟩, by simpa using f0, by simpa using f1⟩, ((Turn.refl (fun q => q = g) w).setCell (a := ⟨g, 0, none⟩) rfl _).setCell (a := ⟨g, 1, none⟩) rfl _⟩
  · exact (World.cell?_setCell_other _ _ _ _ (fun e => by cases e)).trans (World.cell?_setCell_same _ _ _ h0)
  · exact World.cell?_setCell_same _ _ _ (u := v) ((World.cell?_setCell_other w ⟨g, 0, none⟩ ⟨g, 1, none⟩ _ (fun e => by cases e)).trans h1)
/-- The best so far. -/
def bst1 (s t d : Int) : Int × E2 := if d - (s + 2 * t) < 0 then (d - (s + 2 * t), (0, 1)) else (0, (0, 0))
def bst2 (s t d : Int) : Int × E2 := if d - (2 * s + t) < (bst1 s t d).1 then (d - (2 * s + t), (1, 0)) else bst1 s t d
def bst3 (s t d : Int) : Int × E2 := if 3 * d - (2 * s + t) - (s + 2 * t) < (bst2 s t d).1 then (3 * d - (2 * s + t) - (s + 2 * t), (1, 1)) else bst2 s t d
def bstE (s t d : Int) : Nat → Int × E2
  | 0 => (0, (0, 0))
  | 1 => bst1 s t d
  | 2 => bst2 s t d
  | _ => bst3 s t d
theorem bst_best (s t d : Int) : (bstE s t d 3).2 = bestE s t d := rfl
theorem bst_in {s t d : Int} (hs : 0 ≤ s) (hs1 : s < d) (ht : 0 ≤ t) (ht1 : t < d) (k : Nat) : -(3 * d) ≤ (bstE s t d k).1 ∧ (bstE s t d k).1 ≤ 0 ∧ 0 ≤ (bstE s t d k).2.1 ∧ (bstE s t d k).2.1 ≤ 1 ∧ 0 ≤ (bstE s t d k).2.2 ∧ (bstE s t d k).2.2 ≤ 1 := by
  have h0 : ∀ p : Int × E2, p = (0, (0, 0)) → -(3 * d) ≤ p.1 ∧ p.1 ≤ 0 ∧ 0 ≤ p.2.1 ∧ p.2.1 ≤ 1 ∧ 0 ≤ p.2.2 ∧ p.2.2 ≤ 1 := fun p e => by subst e; simp only; omega
  have h1 : -(3 * d) ≤ (bstE s t d 1).1 ∧ (bstE s t d 1).1 ≤ 0 ∧ 0 ≤ (bstE s t d 1).2.1 ∧ (bstE s t d 1).2.1 ≤ 1 ∧ 0 ≤ (bstE s t d 1).2.2 ∧ (bstE s t d 1).2.2 ≤ 1 := by
    rw [show bstE s t d 1 = bst1 s t d from rfl]; unfold bst1; split <;> simp only <;> omega
  have h2 : -(3 * d) ≤ (bstE s t d 2).1 ∧ (bstE s t d 2).1 ≤ 0 ∧ 0 ≤ (bstE s t d 2).2.1 ∧ (bstE s t d 2).2.1 ≤ 1 ∧ 0 ≤ (bstE s t d 2).2.2 ∧ (bstE s t d 2).2.2 ≤ 1 := by
    rw [show bstE s t d 2 = if d - (2 * s + t) < (bstE s t d 1).1 then (d - (2 * s + t), (1, 0)) else bstE s t d 1 from rfl]
    split
    · simp only; omega
    · exact h1
  match k with
  | 0 => exact h0 _ rfl
  | 1 => exact h1
  | 2 => exact h2
  | k + 3 =>
    rw [show bstE s t d (k + 3) = if 3 * d - (2 * s + t) - (s + 2 * t) < (bstE s t d 2).1 then (3 * d - (2 * s + t) - (s + 2 * t), (1, 1)) else bstE s t d 2 from rfl]
    split
    · simp only; omega
    · exact h2
set_option maxRecDepth 100000 in
set_option maxHeartbeats 4000000 in
theorem round_in (u : E2) (d : Int) (hd : 1 ≤ d) (hd2 : d ≤ 1125899906842624) (hu : Sm 1152921504606846976 u) (w : World) :
    Calls Tryz.prog 85 #[vE u, .int .i64 d] w fun e w' => e = .returned (.tuple #[vE (roundE u d), .bool true]) ∧ Below w.heap.size w w' := by
  obtain ⟨a, b⟩ := u
  unfold Sm at hu
  simp only at hu
  obtain ⟨hu1, hu2, hu3, hu4⟩ := hu
  have W1 : Hid (∀ w, Calls Tryz.prog 112 #[.int .i64 a, .int .i64 1152921504606846976] w fun e w' => e = .returned (.bool true) ∧ w' = w) := fun w => by
    have := within_any a 1152921504606846976 (by omega) (by omega) w
    rw [show (decide (-1152921504606846976 ≤ a) && decide (a ≤ 1152921504606846976)) = true by simp; omega] at this
    exact this
  have W2 : Hid (∀ w, Calls Tryz.prog 112 #[.int .i64 b, .int .i64 1152921504606846976] w fun e w' => e = .returned (.bool true) ∧ w' = w) := fun w => by
    have := within_any b 1152921504606846976 (by omega) (by omega) w
    rw [show (decide (-1152921504606846976 ≤ b) && decide (b ≤ 1152921504606846976)) = true by simp; omega] at this
    exact this
  have F1 := Lib.hid (floor_in a d (by omega) (by omega) (by omega) (by omega))
  have F2 := Lib.hid (floor_in b d (by omega) (by omega) (by omega) (by omega))
  have HR : Hid (roundE (a, b) d = (a / d + (bstE (a % d) (b % d) d 3).2.1, b / d + (bstE (a % d) (b % d) d 3).2.2)) := by
    show _ = _
    unfold roundE addE
    rw [bst_best, best_corner (Int.emod_nonneg _ (by omega)) (Int.emod_lt_of_pos _ (by omega)) (Int.emod_nonneg _ (by omega)) (Int.emod_lt_of_pos _ (by omega))]
  have hs0 := Int.emod_nonneg a (show d ≠ 0 by omega)
  have hs1 := Int.emod_lt_of_pos a (show 0 < d by omega)
  have ht0 := Int.emod_nonneg b (show d ≠ 0 by omega)
  have ht1 := Int.emod_lt_of_pos b (show 0 < d by omega)
  have hq1 : -1154047404513689600 ≤ a / d ∧ a / d ≤ 1152921504606846976 := by
    have h1 := Int.mul_ediv_add_emod a d
    constructor
    · rcases Int.lt_or_le (a / d) 0 with h | h
      · have := Int.mul_le_mul_of_nonpos_right (show (1 : Int) ≤ d by omega) (show a / d ≤ 0 by omega)
        omega
      · omega
    · rcases Int.lt_or_le (a / d) 0 with h | h
      · omega
      · have := Int.mul_le_mul_of_nonneg_right (show (1 : Int) ≤ d by omega) h
        omega
  have hq2 : -1154047404513689600 ≤ b / d ∧ b / d ≤ 1152921504606846976 := by
    have h1 := Int.mul_ediv_add_emod b d
    constructor
    · rcases Int.lt_or_le (b / d) 0 with h | h
      · have := Int.mul_le_mul_of_nonpos_right (show (1 : Int) ≤ d by omega) (show b / d ≤ 0 by omega)
        omega
      · omega
    · rcases Int.lt_or_le (b / d) 0 with h | h
      · omega
      · have := Int.mul_le_mul_of_nonneg_right (show (1 : Int) ≤ d by omega) h
        omega
  obtain ⟨hq1a, hq1b⟩ := hq1
  obtain ⟨hq2a, hq2b⟩ := hq2
  show Calls Tryz.prog 85 #[.agg #[.int .i64 a, .int .i64 b], .int .i64 d] w _
  generalize roundE (a, b) d = z at *
  generalize a / d = qa at *
  generalize b / d = qb at *
  generalize a % d = s at *
  generalize b % d = t at *
  have q0 : decide (d < 1) = false := by simp; omega
  have q1 : decide (1125899906842624 < d) = false := by simp; omega
  go_enter Tryz.func85, Tryz.ntmps85
  go_wp2_with fail
  refine (W1.out _).mono ?_
  rintro e w1 ⟨rfl, rfl⟩
  go_wp2_with fail
  refine (W2.out _).mono ?_
  rintro e w1 ⟨rfl, rfl⟩
  go_wp2_with fail
  refine (F1.out _).mono ?_
  rintro e w1 ⟨rfl, hb1⟩
  have h2 : Two w1 w.heap.size (.int .i64 a) (.int .i64 b) := (Two.of_row (t := 70) (f := _) (by rw [Below.heap_alloc _ _ _ (by simp)]; exact heap_new _ _ _ rfl)).later (by simp; omega) hb1
  have h5 : Two2 w1 (w.heap.size + 1) (.int .i64 0) (.int .i64 0) := (Two2.of_row (t := 70) (heap_new _ _ _ (by simp))).later (by simp) hb1
  have hz := hb1.size
  simp at hz
  have hq : Hid (Below w.heap.size w w1) := ((Below.refl _ _).alloc (Nat.le_refl _) _).alloc (by simp) _ |>.trans (hb1.mono (by simp; omega))
  obtain ⟨c0, c1⟩ := h2
  have H5 := Lib.hid h5
  clear hb1 h5
  go_wp2_with fail
  refine (F2.out _).mono ?_
  rintro e w2 ⟨rfl, hb2⟩
  have h5 := H5.out.later (by omega) hb2
  have hq2 := Lib.hid (hq.out.trans (hb2.mono hq.out.size))
  have hz2 := hb2.size
  have hz1 := hq2.out.size
  have hgz : w.heap.size + 1 < w2.heap.size := by omega
  have HA : Hid (Two2 (w2.alloc (.cells #[.int .i64 0, .int .i64 0] 70)) w2.heap.size (.int .i64 0) (.int .i64 0)) := Two2.of_row (t := 70) (heap_new _ _ _ rfl)
  have H5 := Lib.hid (h5.later (by omega) ((Below.refl _ _).alloc (Nat.le_refl _) (.cells #[.int .i64 0, .int .i64 0] 70)))
  have HB := Lib.hid (hq2.out.alloc (by omega) (.cells #[.int .i64 0, .int .i64 0] 70))
  clear hq hq2 h5 c0 c1 hz F1 F2 W1 W2
  go_upto_region 6 with (fail)
  generalize hw3 : w2.alloc (.cells #[.int .i64 0, .int .i64 0] 70) = w3 at *
  obtain ⟨g, hg⟩ : ∃ g, w2.heap.size = g := ⟨_, rfl⟩
  rw [hg] at HA ⊢
  have hgw : g < w3.heap.size := by rw [← hw3, World.size_alloc]; omega
  have hgr : w.heap.size + 1 < g := by rw [← hg]; exact hgz
  clear hw3 hg hz1 hz2 hgz
  have hL := heap_new w3 (.cells #[.int .i64 0, .int .i64 1, .int .i64 1, .int .i64 0, .int .i64 1, .int .i64 1] 70) _ rfl
  have hA4 := HA.out.later hgw ((Below.refl _ _).alloc (Nat.le_refl _) (.cells #[.int .i64 0, .int .i64 1, .int .i64 1, .int .i64 0, .int .i64 1, .int .i64 1] 70))
  have h54 := H5.out.later (by omega) ((Below.refl _ _).alloc (Nat.le_refl _) (.cells #[.int .i64 0, .int .i64 1, .int .i64 1, .int .i64 0, .int .i64 1, .int .i64 1] 70))
  have hB4 := HB.out.alloc (by omega) (.cells #[.int .i64 0, .int .i64 1, .int .i64 1, .int .i64 0, .int .i64 1, .int .i64 1] 70)
  have hs4 := World.size_alloc w3 (.cells #[.int .i64 0, .int .i64 1, .int .i64 1, .int .i64 0, .int .i64 1, .int .i64 1] 70)
  go_wp2
  generalize w3.alloc (.cells #[.int .i64 0, .int .i64 1, .int .i64 1, .int .i64 0, .int .i64 1, .int .i64 1] 70) = w4 at *
  obtain ⟨l, hl⟩ : ∃ l, w3.heap.size = l := ⟨_, rfl⟩
  rw [hl] at hL hs4 hgw ⊢
  have HK : Hid (∀ wr, Turn (fun q => q = g) w4 wr → (wr.cell? ⟨l, 0, none⟩ = some (.int .i64 0) ∧ wr.cell? ⟨l, 1, none⟩ = some (.int .i64 1) ∧ wr.cell? ⟨l, 2, none⟩ = some (.int .i64 1) ∧ wr.cell? ⟨l, 3, none⟩ = some (.int .i64 0) ∧ wr.cell? ⟨l, 4, none⟩ = some (.int .i64 1) ∧ wr.cell? ⟨l, 5, none⟩ = some (.int .i64 1)) ∧ (Two2 wr (w.heap.size + 1) (.int .i64 0) (.int .i64 0)) ∧ Below w.heap.size w wr ∧ g < wr.heap.size ∧ l < wr.heap.size) := fun wr ht => by
    have hh : wr.heap[l]? = _ := (ht.2.2.2.2 l (by omega) (by omega)).trans hL
    have e1 : wr.heap[w.heap.size + 1]? = w4.heap[w.heap.size + 1]? := ht.2.2.2.2 _ (by omega) (by omega)
    have := ht.2.2.2.1
    refine ⟨⟨cell_of_row _ _ 0 _ _ _ hh, cell_of_row _ _ 1 _ _ _ hh, cell_of_row _ _ 2 _ _ _ hh, cell_of_row _ _ 3 _ _ _ hh, cell_of_row _ _ 4 _ _ _ hh, cell_of_row _ _ 5 _ _ _ hh⟩, ?_, hB4.trans (ht.below hB4.size fun q hq e => by omega), by omega, by omega⟩
    exact ⟨⟨(World.cell?_of_block e1).trans h54.1.1, (World.cell?_of_block e1).trans h54.1.2⟩, by rw [World.frozen?, e1]; exact h54.2.1, by rw [World.frozen?, e1]; exact h54.2.2⟩
  have HBN := Lib.hid (fun k => bst_in hs0 hs1 ht0 ht1 k)
  have HB1 : Hid (bstE s t d 1 = if d - (s + 2 * t) < 0 then (d - (s + 2 * t), (0, 1)) else (0, (0, 0))) := rfl
  have HB2 : Hid (bstE s t d 2 = if d - (2 * s + t) < (bstE s t d 1).1 then (d - (2 * s + t), (1, 0)) else bstE s t d 1) := rfl
  have HB3 : Hid (bstE s t d 3 = if 3 * d - (2 * s + t) - (s + 2 * t) < (bstE s t d 2).1 then (3 * d - (2 * s + t) - (s + 2 * t), (1, 1)) else bstE s t d 2) := rfl
  have HA4 : Hid (Two2 w4 g (.int .i64 (bstE s t d 0).2.1) (.int .i64 (bstE s t d 0).2.2)) := hA4
  clear hL hA4 h54 hB4 hs4 hl H5 HA HB
  go_loopw [12, 59] (fun b i wr => ∃ k : Nat, k ≤ 3 ∧ i = .int .i64 k ∧ b = .int .i64 (bstE s t d k).1 ∧ Hid (Two2 wr g (.int .i64 (bstE s t d k).2.1) (.int .i64 (bstE s t d k).2.2) ∧ Turn (fun q => q = g) w4 wr)) (fun _ i _ => 3 - (intOf i).toNat)
  case atStart => exact ⟨0, by omega, rfl, rfl, HA4.out, Turn.refl _ _⟩
  case round =>
    obtain ⟨k, hk, rfl, rfl, HI⟩ := hrel
    have hbn := HBN.out k
    obtain ⟨⟨⟨g0, g1⟩, gf0, gf1⟩, hturn⟩ := HI.out
    obtain ⟨⟨l0, l1, l2, l3, l4, l5⟩, ⟨⟨r0, r1⟩, rf0, rf1⟩, hbw, hgs, hls⟩ := HK.out _ hturn
    have HT := Lib.hid hturn
    have HW := Lib.hid hbw
    clear hturn hbw
    rcases (show k = 0 ∨ k = 1 ∨ k = 2 ∨ k = 3 by omega) with rfl | rfl | rfl | rfl
    · have HN : Hid (bstE s t d 1 = if d - (s + 2 * t) < (bstE s t d 0).1 then (d - (s + 2 * t), (0, 1)) else bstE s t d 0) := by
        show _ = _
        rw [HB1.out]; rfl
      have hall : Below wr.heap.size wr (wr.alloc (.cells #[.int .i64 0, .int .i64 1] 70)) := (Below.refl _ _).alloc (Nat.le_refl _) _
      have HG2 := Lib.hid (HI.out.1.later hgs hall)
      have HT2 : Hid (Turn (fun q => q = g) w4 (wr.alloc (.cells #[.int .i64 0, .int .i64 1] 70))) := HT.out.trans (Turn.of_below hall) fun _ _ h => h
      have hp := HI.out.1.put (.int .i64 0) (.int .i64 1)
      have hpa : Below ((wr.setCell ⟨g, 0, none⟩ (.int .i64 0)).setCell ⟨g, 1, none⟩ (.int .i64 1)).heap.size ((wr.setCell ⟨g, 0, none⟩ (.int .i64 0)).setCell ⟨g, 1, none⟩ (.int .i64 1)) (((wr.setCell ⟨g, 0, none⟩ (.int .i64 0)).setCell ⟨g, 1, none⟩ (.int .i64 1)).alloc (.cells #[.int .i64 0, .int .i64 1] 70)) := (Below.refl _ _).alloc (Nat.le_refl _) _
      have HP : Hid (Two2 (((wr.setCell ⟨g, 0, none⟩ (.int .i64 0)).setCell ⟨g, 1, none⟩ (.int .i64 1)).alloc (.cells #[.int .i64 0, .int .i64 1] 70)).drew g (.int .i64 0) (.int .i64 1) ∧ Turn (fun q => q = g) w4 (((wr.setCell ⟨g, 0, none⟩ (.int .i64 0)).setCell ⟨g, 1, none⟩ (.int .i64 1)).alloc (.cells #[.int .i64 0, .int .i64 1] 70)).drew) := ⟨hp.1.later (Nat.lt_of_lt_of_le hgs hp.2.2.2.2.1) hpa.drew, ((HT.out.trans hp.2 fun _ _ h => h).trans (Turn.of_below hpa) fun _ _ h => h).drew⟩
      clear hp hpa
      have hgs2 : g < wr.heap.size + 1 := by omega
      obtain ⟨⟨G0, G1⟩, G2, G3⟩ := HG2.out
      clear hall
      by_cases hlt : d - (s + 2 * t) < (bstE s t d 0).1
      · have HB : Hid (bstE s t d 1 = (d - (s + 2 * t), (0, 1))) := by show _ = _; rw [HN.out, if_pos hlt]
        clear HN HB1 HB2 HB3
        generalize (bstE s t d 0) = p at *
        obtain ⟨p1, p2, p3⟩ := p
        simp only at *
        go_wp2
        go_region
        all_goals
          go_wp2
          go_roundw
          case rel => exact ⟨1, by omega, by go_num, by rw [HB.out], by rw [HB.out]; exact HP.out.1, HP.out.2⟩
          case measure => simp [intOf]
      · have HB : Hid (bstE s t d 1 = bstE s t d 0) := by show _ = _; rw [HN.out, if_neg hlt]
        have hle : (bstE s t d 0).1 ≤ d - (s + 2 * t) := by omega
        have q2 : decide (d - (s + 2 * t) < (bstE s t d 0).1) = false := by simp; omega
        clear HN HB1 HB2 HB3 hlt hle
        generalize (bstE s t d 0) = p at *
        obtain ⟨p1, p2, p3⟩ := p
        simp only at *
        go_wp2
        go_roundw
        case rel => exact ⟨1, by omega, by go_num, by rw [HB.out], by rw [HB.out]; exact HG2.out, HT2.out⟩
        case measure => simp [intOf]
    · have HN : Hid (bstE s t d 2 = if d - (2 * s + t) < (bstE s t d 1).1 then (d - (2 * s + t), (1, 0)) else bstE s t d 1) := by
        show _ = _
        exact HB2.out
      have hall : Below wr.heap.size wr (wr.alloc (.cells #[.int .i64 1, .int .i64 0] 70)) := (Below.refl _ _).alloc (Nat.le_refl _) _
      have HG2 := Lib.hid (HI.out.1.later hgs hall)
      have HT2 : Hid (Turn (fun q => q = g) w4 (wr.alloc (.cells #[.int .i64 1, .int .i64 0] 70))) := HT.out.trans (Turn.of_below hall) fun _ _ h => h
      have hp := HI.out.1.put (.int .i64 1) (.int .i64 0)
      have hpa : Below ((wr.setCell ⟨g, 0, none⟩ (.int .i64 1)).setCell ⟨g, 1, none⟩ (.int .i64 0)).heap.size ((wr.setCell ⟨g, 0, none⟩ (.int .i64 1)).setCell ⟨g, 1, none⟩ (.int .i64 0)) (((wr.setCell ⟨g, 0, none⟩ (.int .i64 1)).setCell ⟨g, 1, none⟩ (.int .i64 0)).alloc (.cells #[.int .i64 1, .int .i64 0] 70)) := (Below.refl _ _).alloc (Nat.le_refl _) _
      have HP : Hid (Two2 (((wr.setCell ⟨g, 0, none⟩ (.int .i64 1)).setCell ⟨g, 1, none⟩ (.int .i64 0)).alloc (.cells #[.int .i64 1, .int .i64 0] 70)).drew g (.int .i64 1) (.int .i64 0) ∧ Turn (fun q => q = g) w4 (((wr.setCell ⟨g, 0, none⟩ (.int .i64 1)).setCell ⟨g, 1, none⟩ (.int .i64 0)).alloc (.cells #[.int .i64 1, .int .i64 0] 70)).drew) := ⟨hp.1.later (Nat.lt_of_lt_of_le hgs hp.2.2.2.2.1) hpa.drew, ((HT.out.trans hp.2 fun _ _ h => h).trans (Turn.of_below hpa) fun _ _ h => h).drew⟩
      clear hp hpa
      have hgs2 : g < wr.heap.size + 1 := by omega
      obtain ⟨⟨G0, G1⟩, G2, G3⟩ := HG2.out
      clear hall
      by_cases hlt : d - (2 * s + t) < (bstE s t d 1).1
      · have HB : Hid (bstE s t d 2 = (d - (2 * s + t), (1, 0))) := by show _ = _; rw [HN.out, if_pos hlt]
        clear HN HB1 HB2 HB3
        generalize (bstE s t d 1) = p at *
        obtain ⟨p1, p2, p3⟩ := p
        simp only at *
        go_wp2
        go_region
        all_goals
          go_wp2
          go_roundw
          case rel => exact ⟨2, by omega, by go_num, by rw [HB.out], by rw [HB.out]; exact HP.out.1, HP.out.2⟩
          case measure => simp [intOf]
      · have HB : Hid (bstE s t d 2 = bstE s t d 1) := by show _ = _; rw [HN.out, if_neg hlt]
        have hle : (bstE s t d 1).1 ≤ d - (2 * s + t) := by omega
        have q2 : decide (d - (2 * s + t) < (bstE s t d 1).1) = false := by simp; omega
        clear HN HB1 HB2 HB3 hlt hle
        generalize (bstE s t d 1) = p at *
        obtain ⟨p1, p2, p3⟩ := p
        simp only at *
        go_wp2
        go_roundw
        case rel => exact ⟨2, by omega, by go_num, by rw [HB.out], by rw [HB.out]; exact HG2.out, HT2.out⟩
        case measure => simp [intOf]
    · have HN : Hid (bstE s t d 3 = if d * 3 - (2 * s + t) - (s + 2 * t) < (bstE s t d 2).1 then (d * 3 - (2 * s + t) - (s + 2 * t), (1, 1)) else bstE s t d 2) := by
        show _ = _
        rw [HB3.out, Int.mul_comm 3 d]
      have hall : Below wr.heap.size wr (wr.alloc (.cells #[.int .i64 1, .int .i64 1] 70)) := (Below.refl _ _).alloc (Nat.le_refl _) _
      have HG2 := Lib.hid (HI.out.1.later hgs hall)
      have HT2 : Hid (Turn (fun q => q = g) w4 (wr.alloc (.cells #[.int .i64 1, .int .i64 1] 70))) := HT.out.trans (Turn.of_below hall) fun _ _ h => h
      have hp := HI.out.1.put (.int .i64 1) (.int .i64 1)
      have hpa : Below ((wr.setCell ⟨g, 0, none⟩ (.int .i64 1)).setCell ⟨g, 1, none⟩ (.int .i64 1)).heap.size ((wr.setCell ⟨g, 0, none⟩ (.int .i64 1)).setCell ⟨g, 1, none⟩ (.int .i64 1)) (((wr.setCell ⟨g, 0, none⟩ (.int .i64 1)).setCell ⟨g, 1, none⟩ (.int .i64 1)).alloc (.cells #[.int .i64 1, .int .i64 1] 70)) := (Below.refl _ _).alloc (Nat.le_refl _) _
      have HP : Hid (Two2 (((wr.setCell ⟨g, 0, none⟩ (.int .i64 1)).setCell ⟨g, 1, none⟩ (.int .i64 1)).alloc (.cells #[.int .i64 1, .int .i64 1] 70)).drew g (.int .i64 1) (.int .i64 1) ∧ Turn (fun q => q = g) w4 (((wr.setCell ⟨g, 0, none⟩ (.int .i64 1)).setCell ⟨g, 1, none⟩ (.int .i64 1)).alloc (.cells #[.int .i64 1, .int .i64 1] 70)).drew) := ⟨hp.1.later (Nat.lt_of_lt_of_le hgs hp.2.2.2.2.1) hpa.drew, ((HT.out.trans hp.2 fun _ _ h => h).trans (Turn.of_below hpa) fun _ _ h => h).drew⟩
      clear hp hpa
      have hgs2 : g < wr.heap.size + 1 := by omega
      obtain ⟨⟨G0, G1⟩, G2, G3⟩ := HG2.out
      clear hall
      by_cases hlt : d * 3 - (2 * s + t) - (s + 2 * t) < (bstE s t d 2).1
      · have HB : Hid (bstE s t d 3 = (d * 3 - (2 * s + t) - (s + 2 * t), (1, 1))) := by show _ = _; rw [HN.out, if_pos hlt]
        clear HN HB1 HB2 HB3
        generalize (bstE s t d 2) = p at *
        obtain ⟨p1, p2, p3⟩ := p
        simp only at *
        go_wp2
        go_region
        all_goals
          go_wp2
          go_roundw
          case rel => exact ⟨3, by omega, by go_num, by rw [HB.out], by rw [HB.out]; exact HP.out.1, HP.out.2⟩
          case measure => simp [intOf]
      · have HB : Hid (bstE s t d 3 = bstE s t d 2) := by show _ = _; rw [HN.out, if_neg hlt]
        have hle : (bstE s t d 2).1 ≤ d * 3 - (2 * s + t) - (s + 2 * t) := by omega
        have q2 : decide (d * 3 - (2 * s + t) - (s + 2 * t) < (bstE s t d 2).1) = false := by simp; omega
        clear HN HB1 HB2 HB3 hlt hle
        generalize (bstE s t d 2) = p at *
        obtain ⟨p1, p2, p3⟩ := p
        simp only at *
        go_wp2
        go_roundw
        case rel => exact ⟨3, by omega, by go_num, by rw [HB.out], by rw [HB.out]; exact HG2.out, HT2.out⟩
        case measure => simp [intOf]
    · have hb2 := hbn
      have HZ : Hid (z = (qa + (bstE s t d 3).2.1, qb + (bstE s t d 3).2.2)) := HR.out
      generalize bstE s t d 3 = p at *
      obtain ⟨p1, p2, p3⟩ := p
      simp only at *
      go_wp2
      exact bodyPost_ret (v := .tuple #[.agg #[.int .i64 (qa + p2), .int .i64 (qb + p3)], .bool true]) (by simp [results, Tryz.results85, go_sem, *]) rfl ⟨by rw [HZ.out], (HW.out.setCell (p := ⟨w.heap.size + 1, 0, none⟩) (by simp) _).setCell (p := ⟨w.heap.size + 1, 1, none⟩) (by simp) _⟩
end Go.Proofs.YtjimcjhgjfhbiaaGreat
/- Contracts of package cell: split, digit. -/
namespace Go.Proofs.YtjimcjhgjfhbiaaGreat
open Go.RowKit Go.Lib Wd

theorem mul_e (y z : E2) (hy : Sm 1152921504606846976 y) (hz : Sm 1152921504606846976 z) (h : Sm 4611686018427387904 (mulE y z)) (w : World) :
    Calls Tryz.prog 84 #[vE y, vE z] w fun e w' => e = .returned (.tuple #[vE (mulE y z), .bool true]) ∧ Below w.heap.size w w' := by
  obtain ⟨a, b⟩ := y
  obtain ⟨c, d⟩ := z
  exact mul_in a b c d ⟨hy.1, hy.2.1⟩ ⟨hy.2.2.1, hy.2.2.2⟩ ⟨hz.1, hz.2.1⟩ ⟨hz.2.2.1, hz.2.2.2⟩ ⟨h.1, h.2.1⟩ ⟨h.2.2.1, h.2.2.2⟩ w
theorem Two.alloc {w : World} {b : Nat} {u v : Value} (h : Two w b u v) (hb : b < w.heap.size) (o : Obj) : Two (w.alloc o) b u v := h.later hb ((Below.refl _ _).alloc (Nat.le_refl _) o)
theorem Two2.alloc {w : World} {b : Nat} {u v : Value} (h : Two2 w b u v) (hb : b < w.heap.size) (o : Obj) : Two2 (w.alloc o) b u v := h.later hb ((Below.refl _ _).alloc (Nat.le_refl _) o)
theorem Two2.turn {S : Nat → Prop} {w w' : World} {b : Nat} {u v : Value} (h : Two2 w b u v) (ht : Turn S w w') (hb : b < w.heap.size) (hs : ¬ S b) : Two2 w' b u v := by
  have e : w'.heap[b]? = w.heap[b]? := ht.2.2.2.2 b hb hs
  exact ⟨⟨(World.cell?_of_block e).trans h.1.1, (World.cell?_of_block e).trans h.1.2⟩, by rw [World.frozen?, e]; exact h.2.1, by rw [World.frozen?, e]; exact h.2.2⟩
theorem Two.turn {S : Nat → Prop} {w w' : World} {b : Nat} {u v : Value} (h : Two w b u v) (ht : Turn S w w') (hb : b < w.heap.size) (hs : ¬ S b) : Two w' b u v := by
  have e : w'.heap[b]? = w.heap[b]? := ht.2.2.2.2 b hb hs
  exact ⟨(World.cell?_of_block e).trans h.1, (World.cell?_of_block e).trans h.2⟩
theorem left_of (z : E2) : subE z (mulE (upE z) (2, 1)) = leftE (digE z) := by
  have h := down_up z
  unfold downE addE at h
  unfold subE
  generalize mulE (upE z) (2, 1) = m at *
  generalize leftE (digE z) = l at *
  rw [← h]
  ext <;> simp only <;> omega
theorem left_sm (d : Nat) : Sm 1 (leftE d) := by
  match d with
  | 0 => unfold Sm; decide
  | k + 1 =>
    show Sm 1 (unitE k)
    unfold unitE
    split <;> (unfold Sm; decide)
theorem up_sm {h : Int} (hh : 2 ≤ h) {z : E2} (hz : Sm h z) : Sm h (upE z) := by
  have h1 := left_sm (digE z)
  unfold upE
  generalize leftE (digE z) = l at *
  unfold Sm at *
  simp only
  omega
set_option maxRecDepth 100000 in
set_option maxHeartbeats 4000000 in
theorem split_in (z : E2) (hz : Sm 1099511627776 z) (w : World) :
    Calls Tryz.prog 134 #[vE z] w fun e w' => e = .returned (.tuple #[vE (upE z), vE (leftE (digE z))]) ∧ Below w.heap.size w w' := by
  have hup := up_sm (by omega) hz
  have C := Lib.hid (conj_in (2, 1) (by unfold Sm; simp))
  have M1 := Lib.hid (mul_e z (3, -1) (by unfold Sm at *; omega) (by unfold Sm; simp) (by unfold Sm mulE at *; simp only; omega))
  have R1 := Lib.hid (round_in (mulE z (3, -1)) 7 (by omega) (by omega) (by unfold Sm mulE at *; simp only; omega))
  rw [round_up] at R1
  have M2 := Lib.hid (mul_e (upE z) (2, 1) (by unfold Sm at *; omega) (by unfold Sm; simp) (by unfold Sm mulE at *; simp only; omega))
  have S1 := Lib.hid (sub_in z (mulE (upE z) (2, 1)) (by unfold Sm at *; omega) (by unfold Sm mulE at *; simp only; omega))
  rw [left_of] at S1
  clear hup hz
  obtain ⟨a, b⟩ := z
  simp only [vE] at *
  generalize upE (a, b) = p at *
  generalize mulE (a, b) (3, -1) = q at *
  generalize mulE p (2, 1) = m at *
  generalize leftE (digE (a, b)) = l at *
  obtain ⟨p1, p2⟩ := p
  obtain ⟨q1, q2⟩ := q
  obtain ⟨m1, m2⟩ := m
  obtain ⟨l1, l2⟩ := l
  simp only at *
  go_enter Tryz.func134, Tryz.ntmps134
  go_wp2_with fail
  refine (C.out _).mono ?_
  rintro e w1 ⟨rfl, hb1⟩
  have hz1 := hb1.size
  simp at hz1
  have z0 : Two w1 w.heap.size (.int .i64 a) (.int .i64 b) := (Two.of_row (t := 70) (f := _) (by rw [Below.heap_alloc _ _ _ (by simp; omega), Below.heap_alloc _ _ _ (by simp)]; exact heap_new _ _ _ rfl)).later (by simp; omega) hb1
  have u0 : Two2 w1 (w.heap.size + 1) (.int .i64 0) (.int .i64 0) := (Two2.of_row (t := 70) (by rw [Below.heap_alloc _ _ _ (by simp)]; exact heap_new _ _ _ (by simp))).later (by simp) hb1
  have v0 : Two2 w1 (w.heap.size + 2) (.int .i64 0) (.int .i64 0) := (Two2.of_row (t := 70) (heap_new _ _ _ (by simp))).later (by simp) hb1
  have hB1 : Below w.heap.size w w1 := (((Below.refl _ _).alloc (Nat.le_refl _) _).alloc (by simp) _).alloc (by simp; omega) _ |>.trans (hb1.mono (by simp; omega))
  have z1 := z0.alloc (by omega) (.cells #[.int .i64 3, .int .i64 (-1)] 70)
  have u1 := u0.alloc (by omega) (.cells #[.int .i64 3, .int .i64 (-1)] 70)
  have v1 := v0.alloc (by omega) (.cells #[.int .i64 3, .int .i64 (-1)] 70)
  have hB2 := hB1.alloc (by omega) (.cells #[.int .i64 3, .int .i64 (-1)] 70)
  have hz2 := World.size_alloc w1 (.cells #[.int .i64 3, .int .i64 (-1)] 70)
  have U1 := Lib.hid u1
  have V1 := Lib.hid v1
  have Z1 := Lib.hid z1
  have B2 := Lib.hid hB2
  obtain ⟨k0, k1⟩ := z1
  clear u0 v0 z0 hb1 hB1 u1 v1 hB2
  go_wp2_with fail
  refine (M1.out _).mono ?_
  rintro e w2 ⟨rfl, hb2⟩
  have hz3 := hb2.size
  have U2 := Lib.hid (U1.out.later (by omega) hb2)
  have V2 := Lib.hid (V1.out.later (by omega) hb2)
  have Z2 := Lib.hid (Z1.out.later (by omega) hb2)
  have B3 := Lib.hid (B2.out.trans (hb2.mono (by omega)))
  have B4 := Lib.hid (B3.out.alloc (by omega) (.cells #[.int .i64 q1, .int .i64 q2] 70))
  have U3 := Lib.hid (U2.out.alloc (by omega) (.cells #[.int .i64 q1, .int .i64 q2] 70))
  have V3 := Lib.hid (V2.out.alloc (by omega) (.cells #[.int .i64 q1, .int .i64 q2] 70))
  have Z3 := Lib.hid (Z2.out.alloc (by omega) (.cells #[.int .i64 q1, .int .i64 q2] 70))
  have hz4 := World.size_alloc w2 (.cells #[.int .i64 q1, .int .i64 q2] 70)
  clear U1 V1 Z1 B2 U2 V2 Z2 B3 hb2 k0 k1
  go_wp2_with fail
  refine (R1.out _).mono ?_
  rintro e w3 ⟨rfl, hb3⟩
  have hz5 := hb3.size
  have U4 := Lib.hid (U3.out.later (by omega) hb3)
  have V4 := Lib.hid (V3.out.later (by omega) hb3)
  have Z4 := Lib.hid (Z3.out.later (by omega) hb3)
  have B5 := Lib.hid (B4.out.trans (hb3.mono (by omega)))
  have P := Lib.hid (U4.out.put (.int .i64 p1) (.int .i64 p2))
  have V5 := Lib.hid (V4.out.turn P.out.2 (by omega) (by omega))
  have Z5 := Lib.hid (Z4.out.turn P.out.2 (by omega) (by omega))
  have B6 : Hid (Below w.heap.size w ((w3.setCell ⟨w.heap.size + 1, 0, none⟩ (.int .i64 p1)).setCell ⟨w.heap.size + 1, 1, none⟩ (.int .i64 p2))) := B5.out.trans (P.out.2.below (by omega) fun k hk e => by omega)
  obtain ⟨⟨k0, k1⟩, k2, k3⟩ := U4.out
  have hz6 := P.out.2.2.2.2.1
  clear U3 V3 Z3 B4 hb3 V4 Z4 B5 U4
  go_upto_region 4 with (fail)
  generalize (w3.setCell ⟨w.heap.size + 1, 0, none⟩ (.int .i64 p1)).setCell ⟨w.heap.size + 1, 1, none⟩ (.int .i64 p2) = w4 at *
  obtain ⟨⟨i0, i1⟩, i2, i3⟩ := P.out.1
  have U5 := Lib.hid P.out.1
  clear P k0 k1 k2 k3
  go_wp2_with fail
  refine (M2.out _).mono ?_
  rintro e w5 ⟨rfl, hb5⟩
  have hz7 := hb5.size
  have U6 := Lib.hid ((U5.out.later (by omega) hb5).alloc (by omega) (.cells #[.int .i64 m1, .int .i64 m2] 70))
  have V6 := Lib.hid ((V5.out.later (by omega) hb5).alloc (by omega) (.cells #[.int .i64 m1, .int .i64 m2] 70))
  have Z6 := Lib.hid ((Z5.out.later (by omega) hb5).alloc (by omega) (.cells #[.int .i64 m1, .int .i64 m2] 70))
  have B7 := Lib.hid ((B6.out.trans (hb5.mono (by omega))).alloc (by omega) (.cells #[.int .i64 m1, .int .i64 m2] 70))
  have hz8 := World.size_alloc w5 (.cells #[.int .i64 m1, .int .i64 m2] 70)
  obtain ⟨j0, j1⟩ := Z6.out
  clear U5 V5 Z5 B6 hb5 i0 i1 i2 i3
  go_wp2_with fail
  refine (S1.out _).mono ?_
  rintro e w6 ⟨rfl, hb6⟩
  have hz9 := hb6.size
  have U7 := Lib.hid (U6.out.later (by omega) hb6)
  have V7 := Lib.hid (V6.out.later (by omega) hb6)
  have B8 := Lib.hid (B7.out.trans (hb6.mono (by omega)))
  have Q := Lib.hid (V7.out.put (.int .i64 l1) (.int .i64 l2))
  have U8 := Lib.hid (U7.out.turn Q.out.2 (by omega) (by omega))
  have B9 : Hid (Below w.heap.size w ((w6.setCell ⟨w.heap.size + 2, 0, none⟩ (.int .i64 l1)).setCell ⟨w.heap.size + 2, 1, none⟩ (.int .i64 l2))) := B8.out.trans (Q.out.2.below (by omega) fun k hk e => by omega)
  obtain ⟨⟨n0, n1⟩, n2, n3⟩ := V7.out
  have hz10 := Q.out.2.2.2.2.1
  clear U6 V6 Z6 B7 hb6 j0 j1 U7 V7 B8
  go_upto_region 6 with (fail)
  generalize (w6.setCell ⟨w.heap.size + 1 + 1, 0, none⟩ (.int .i64 l1)).setCell ⟨w.heap.size + 1 + 1, 1, none⟩ (.int .i64 l2) = w7 at *
  obtain ⟨⟨o0, o1⟩, o2, o3⟩ := U8.out
  obtain ⟨⟨y0, y1⟩, y2, y3⟩ : Two2 w7 (w.heap.size + 1 + 1) (.int .i64 l1) (.int .i64 l2) := Q.out.1
  have ho : w.heap.size + 1 < w7.heap.size := by omega
  have hy : w.heap.size + 1 + 1 < w7.heap.size := by omega
  clear n0 n1 n2 n3 Q U8
  go_region
  go_wp2
  exact bodyPost_ret (v := .tuple #[.agg #[.int .i64 p1, .int .i64 p2], .agg #[.int .i64 l1, .int .i64 l2]]) (by simp [results, Tryz.results134, go_sem, *]) rfl ⟨rfl, ((((B9.out.setCell (p := ⟨w.heap.size + 1, 0, none⟩) (by simp) _).setCell (p := ⟨w.heap.size + 1, 1, none⟩) (by simp) _).setCell (p := ⟨w.heap.size + 1 + 1, 0, none⟩) (by simp; omega) _).setCell (p := ⟨w.heap.size + 1 + 1, 1, none⟩) (by simp; omega) _).drew⟩
theorem unit_left {k d : Nat} (hk : k < 6) (hd : d < 7) : (((unitE k).1 == (leftE d).1) && ((unitE k).2 == (leftE d).2)) = decide (d = k + 1) := by
  rcases (show k = 0 ∨ k = 1 ∨ k = 2 ∨ k = 3 ∨ k = 4 ∨ k = 5 by omega) with rfl | rfl | rfl | rfl | rfl | rfl <;> rcases (show d = 0 ∨ d = 1 ∨ d = 2 ∨ d = 3 ∨ d = 4 ∨ d = 5 ∨ d = 6 by omega) with rfl | rfl | rfl | rfl | rfl | rfl | rfl <;> decide
set_option maxHeartbeats 1000000 in
theorem digit_in (d : Nat) (hd : d < 7) (w : World) :
    Calls Tryz.prog 135 #[vE (leftE d)] w fun e w' => e = .returned (.int .i64 d) ∧ Below w.heap.size w w' := by
  have HU := Lib.hid (fun k (hk : k < 6) => unit_left hk hd)
  generalize leftE d = l at *
  obtain ⟨l1, l2⟩ := l
  simp only [vE] at *
  go_enter Tryz.func135, Tryz.ntmps135
  have z0 : Hid (Two (w.alloc (.cells #[.int .i64 l1, .int .i64 l2] 70)) w.heap.size (.int .i64 l1) (.int .i64 l2)) := Two.of_row (t := 70) (f := _) (heap_new _ _ _ rfl)
  have hB : Hid (Below w.heap.size w (w.alloc (.cells #[.int .i64 l1, .int .i64 l2] 70))) := (Below.refl _ _).alloc (Nat.le_refl _) _
  have hz := World.size_alloc w (.cells #[.int .i64 l1, .int .i64 l2] 70)
  go_upto_region 1 with (fail)
  generalize w.alloc (.cells #[.int .i64 l1, .int .i64 l2] 70) = w1 at *
  go_wp2
  go_loopw [4] (fun i wr => ∃ k : Nat, k ≤ 6 ∧ i = .int .i64 k ∧ (d = 0 ∨ k < d) ∧ Below w1.heap.size w1 wr) (fun i _ => 6 - (intOf i).toNat)
  case atStart => exact ⟨0, by omega, rfl, by omega, Below.refl _ _⟩
  case round =>
    obtain ⟨k, hk, rfl, hd0, hbw⟩ := hrel
    have hsz := hbw.size
    by_cases hk6 : k < 6
    · have U := Lib.hid (unit_in k hk6)
      have HQ := Lib.hid (HU.out k hk6)
      have HZ : Hid (∀ wx, Below wr.heap.size wr wx → Two wx w.heap.size (.int .i64 l1) (.int .i64 l2)) := fun wx hx => z0.out.later (by omega) (hbw.trans (hx.mono hsz))
      have HB := Lib.hid hbw
      simp only [vE] at U
      generalize unitE k = u at *
      obtain ⟨u1, u2⟩ := u
      simp only at U HQ
      obtain ⟨b, hb⟩ : ∃ b, decide (d = k + 1) = b := ⟨_, rfl⟩
      rw [hb] at HQ
      have HD : Hid (decide (d = k + 1) = b) := hb
      have HK : Hid (d = 0 ∨ k < d) := hd0
      have q6 : decide ((k : Int) < 6) = true := by simp; omega
      clear hb hbw hd0
      go_upto_region 4 with (fail)
      refine wp_region_inw ([.inl (.int .i64 (k : Int)), .inl (.agg #[.int .i64 u1, .int .i64 u2]), .inl (.agg #[.int .i64 l1, .int .i64 l2]), .inl (.bool b)] : List Want) [] (by kernel_rfl) (by kernel_rfl) (by kernel_rfl) ?_
      refine inw_cons (fun wx hg hd => ?_) (fun v0 => ?_)
      · have hx := ((Below.refl wr.heap.size wr).drew).trans hg
        clear hd hg
        go_wp2
        exact ⟨_, rfl, Below.refl _ _, rfl⟩
      (try simp only [List.nil_append, Act.put, List.setIfInBounds_toArray, List.set_cons_zero, List.set_cons_succ])
      refine inw_cons (fun wx hg hd => ?_) (fun v1 => ?_)
      · have hx := ((Below.refl wr.heap.size wr).drew).trans hg
        (try (have ee : v0 = (.int .i64 (k : Int) : Value) := hd 0 (by simp) (by decide); subst ee))
        clear hd hg
        go_wp2_with fail
        refine (U.out _).mono ?_
        rintro e w' ⟨rfl, hb⟩
        go_wp2
        exact ⟨_, rfl, hb, rfl⟩
      (try simp only [List.cons_append, List.nil_append, Act.put, List.setIfInBounds_toArray, List.set_cons_zero, List.set_cons_succ])
      refine inw_cons (fun wx hg hd => ?_) (fun v2 => ?_)
      · have hx := ((Below.refl wr.heap.size wr).drew).trans hg
        clear hd hg
        obtain ⟨k1, k2⟩ := HZ.out _ hx
        go_wp2
        exact ⟨_, rfl, Below.refl _ _, rfl⟩
      (try simp only [List.cons_append, List.nil_append, Act.put, List.setIfInBounds_toArray, List.set_cons_zero, List.set_cons_succ])
      refine inw_cons (fun wx hg hd => ?_) (fun v3 => ?_)
      · have hx := ((Below.refl wr.heap.size wr).drew).trans hg
        (try (have ee : v1 = (.agg #[.int .i64 u1, .int .i64 u2] : Value) := hd 1 (by simp) (by decide); subst ee))
        (try (have ee : v2 = (.agg #[.int .i64 l1, .int .i64 l2] : Value) := hd 2 (by simp) (by decide); subst ee))
        clear hd hg
        go_wp2
        all_goals (refine ⟨_, rfl, Below.refl _ _, ?_⟩)
        all_goals (show Value.bool _ = Value.bool b)
        all_goals (rw [← HQ.out])
        all_goals (simp [*])
      (try simp only [List.cons_append, List.nil_append, Act.put, List.setIfInBounds_toArray, List.set_cons_zero, List.set_cons_succ])
      refine inw_done (fun wx hg hd => ?_)
      have hx := ((Below.refl wr.heap.size wr).drew).trans hg
      (have ee : v0 = (.int .i64 (k : Int) : Value) := hd 0 (by simp) (by kernel_rfl); subst ee)
      (have ee : v1 = (.agg #[.int .i64 u1, .int .i64 u2] : Value) := hd 1 (by simp) (by kernel_rfl); subst ee)
      (have ee : v2 = (.agg #[.int .i64 l1, .int .i64 l2] : Value) := hd 2 (by simp) (by kernel_rfl); subst ee)
      (have ee : v3 = (.bool b : Value) := hd 3 (by simp) (by kernel_rfl); subst ee)
      clear hd hg
      (try go_simp)
      have HX : Hid (Below w1.heap.size w1 wx) := HB.out.trans (hx.mono HB.out.size)
      have HF : Hid (Below w.heap.size w wx) := hB.out.trans (HX.out.mono hB.out.size)
      cases b
      · have hne : d ≠ k + 1 := by simpa using HD.out
        go_wp2
        go_roundw
        case rel => exact ⟨k + 1, by omega, by go_num, by have := HK.out; omega, HX.out⟩
        case measure => simp [intOf]; omega
      · have hne : d = k + 1 := by simpa using HD.out
        have HV : Hid ((d : Int) = (k : Int) + 1) := by show _ = _; omega
        clear hne HK HD
        go_wp2
        go_ret
        exact ⟨by rw [HV.out]; rfl, HF.out⟩
    · have h0 : d = 0 := by omega
      obtain rfl : k = 6 := by omega
      subst h0
      have HF : Hid (Below w.heap.size w wr) := hB.out.trans (hbw.mono hB.out.size)
      clear hbw hk6
      go_wp2
      go_ret
      exact ⟨rfl, HF.out⟩
end Go.Proofs.YtjimcjhgjfhbiaaGreat
/- The same, where the last operations, which come behind all others, may come in an order of their own: they are left to be walked. -/
namespace Go.Proofs.YtjimcjhgjfhbiaaGreat
open Go
section
variable {P : Program} {ops : Array Oper}
/-- The last operations, from place n on, wait for all others. -/
def lateB (ops : Array Oper) (n : Nat) : Bool :=
  decide (n ≤ ops.size) && ((List.range ops.size).all fun t => decide (t < n) || (List.range n).all fun i => ((waits ops.toList []).getD t 0).testBit i)
theorem inv_part {l : List Oper} {n : Nat} {Q : Exit → Act → World → Prop} {G : World → World → Prop} {w0 : World} {R : Nat → Value → World → Prop} {a0 : Act} (hB : invB l.toArray = true) (hE : lateB l.toArray n = true)
    (Gt : ∀ w w1 w2, G w w1 → G w1 w2 → G w w2) (mono : ∀ i v w w', G w0 w → G w w' → R i v w → R i v w')
    (h : invList P l.toArray G w0 R (fun a w => wpAny P .any l.toArray (Only (Q .normal)) (l.length - n) (Array.replicate n true ++ Array.replicate (l.length - n) false) a w) (l.take n) [] a0) :
    ∀ (fuel : Nat) (listed : Array Bool) (V : Nat → Value) (w : World), listed.size = l.length → Closed l.toArray listed → (∀ t, n ≤ t → listed.getD t false = false) → G w0 w → (∀ j, listed.getD j false = true → R j (V j) w) →
    (rem l.toArray listed).length = fuel → wpAny P .any l.toArray (Only (Q .normal)) fuel listed (fillD (fun j => listed.getD j false) V (l.take n) 0 a0) w := by
  unfold invB at hB
  simp only [Bool.and_eq_true, List.all_eq_true, List.mem_range] at hB
  obtain ⟨hsel, hB⟩ := hB
  have hB' : ∀ i oi, l.toArray[i]? = some oi → _ := fun i oi hi => by
    have := hB i (Array.getElem?_eq_some_iff.1 hi).1
    simp only [hi, Bool.and_eq_true, List.all_eq_true, List.mem_range] at this
    exact this
  have hback : ∀ i oi, l.toArray[i]? = some oi → ∀ e ∈ oi.after, Region.binds .any e = true → e.on < i := fun i oi hi e he hb => by
    have := (hB' i oi hi).1 e (by simpa using he)
    simpa [hb] using this
  have htr : Truth l.toArray (waits l.toArray.toList []) := waits_truth hback l.toArray.toList [] (fun j => by simp) (fun i t hi => by simp at hi)
  have hlen : (waits l.toArray.toList []).length = l.length := by rw [waits_length]; simp
  unfold lateB at hE
  simp only [Bool.and_eq_true, decide_eq_true_eq, List.all_eq_true, List.mem_range, Bool.or_eq_true] at hE
  obtain ⟨hn, hw⟩ := hE
  have hnl : n ≤ l.length := by simpa using hn
  have htl : (l.take n).length = n := by rw [List.length_take]; omega
  have hend : ∀ (listed : Array Bool) (V : Nat → Value) (w : World), listed.size = l.length → (∀ i, i < n → listed.getD i false = true) → (∀ t, n ≤ t → listed.getD t false = false) → G w0 w → (∀ j, listed.getD j false = true → R j (V j) w) →
      wpAny P .any l.toArray (Only (Q .normal)) (l.length - n) listed (fillD (fun j => listed.getD j false) V (l.take n) 0 a0) w := fun listed V w hs hd hd2 hg hr => by
    have h1 := (inv_at V (l.take n) 0 a0 h).2 w hg fun j hj => hr j (hd j (by rw [htl] at hj; omega))
    rw [fill_congr _ (fun _ => true) V V (l.take n) 0 a0 fun j _ hj => ⟨hd j (by rw [htl] at hj; omega), fun _ => rfl⟩, arr_cut hs hnl hd hd2]
    exact h1
  have hfro : ∀ (listed : Array Bool), Closed l.toArray listed → ∀ i, i ∈ Region.ready .any l.toArray listed → n ≤ i → ∀ k, k < n → listed.getD k false = true := fun listed hcl i hi hni k hk => by
    obtain ⟨hun, o, ho, hdone⟩ := mem_ready.1 hi
    have hlt : i < l.toArray.size := (Array.getElem?_eq_some_iff.1 ho).1
    have h1 := (hw i hlt).resolve_left (by omega) k hk
    exact htr.listed hcl i o k (by rw [hlen]; simpa using hlt) ho (fun e he hb => hdone e he hb) h1
  intro fuel
  induction fuel with
  | zero =>
    intro listed V w hs hcl hta hg hr hf
    have hnil : rem l.toArray listed = [] := List.eq_nil_of_length_eq_zero (by omega)
    have hd : ∀ i, i < l.length → listed.getD i false = true := fun i hi => by
      by_cases hd : listed.getD i false = true
      · exact hd
      · exfalso
        have : i ∈ rem l.toArray listed := mem_rem.2 ⟨by simpa using hi, by
          have : i < listed.size := by omega
          simp [this] at hd ⊢; exact hd⟩
        rw [hnil] at this
        cases this
    have hnn : n = l.length := by
      rcases Nat.lt_or_ge n l.length with h1 | h1
      · have h2 := hd n h1
        rw [hta n (Nat.le_refl n)] at h2
        cases h2
      · omega
    have := hend listed V w hs (fun i hi => hd i (by omega)) hta hg hr
    rw [show l.length - n = 0 by omega] at this
    exact this
  | succ fuel ih =>
    intro listed V w hs hcl hta hg hr hf
    by_cases hfull : ∀ i, i < n → listed.getD i false = true
    · have hrem : (rem l.toArray listed).length = l.length - n := by
        have e := arr_cut hs hnl hfull hta
        have e2 : rem l.toArray listed = (List.range l.length).filter fun j => decide (n ≤ j) := by
          unfold rem
          rw [show l.toArray.size = l.length by simp]
          refine List.filter_congr fun j hj => ?_
          have hj' : j < l.length := by simpa using hj
          rcases Nat.lt_or_ge j n with h1 | h1
          · rw [decide_eq_false (by omega)]
            have h3 := hfull j h1
            have h4 : j < listed.size := by omega
            simp [h4] at h3 ⊢
            exact h3
          · rw [decide_eq_true h1]
            have h3 := hta j h1
            have h4 : j < listed.size := by omega
            simp [h4] at h3 ⊢
            exact h3
        rw [e2]
        clear e e2 hf
        have : ∀ m, n ≤ m → ((List.range m).filter fun j => decide (n ≤ j)).length = m - n := by
          intro m hm
          obtain ⟨d, rfl⟩ : ∃ d, m = n + d := ⟨m - n, by omega⟩
          clear hm
          induction d with
          | zero =>
            rw [List.filter_eq_nil_iff.2 fun j hj => by have := List.mem_range.1 hj; simp; omega]
            simp
          | succ d ih => rw [← Nat.add_assoc, List.range_succ, List.filter_append, List.length_append, ih]; simp; omega
        exact this _ hnl
      have := hend listed V w hs hfull hta hg hr
      rw [← hrem, hf] at this
      exact this
    have hir : ∀ i, i ∈ Region.ready .any l.toArray listed → i < n := fun i hi => by
      rcases Nat.lt_or_ge i n with h1 | h1
      · exact h1
      · exact absurd (hfro listed hcl i hi h1) hfull
    refine ⟨fun hrd => ?_, fun i hi => ?_⟩
    · exfalso
      exact hfull fun i hi => rem_nil hback listed (by simpa using hs) hrd i (by rw [show l.toArray.size = l.length by simp]; omega)
    have hin := hir i hi
    obtain ⟨hun, o, ho, hdone⟩ := mem_ready.1 hi
    have hlt : i < l.toArray.size := (Array.getElem?_eq_some_iff.1 ho).1
    have hltl : i < l.length := by simpa using hlt
    have hlis : i < listed.size := by omega
    have hun' : listed.getD i false = false := by simp [hlis] at hun ⊢; exact hun
    have hol : (l.take n)[i]? = some o := by rw [List.getElem?_take_of_lt hin]; simpa using ho
    have hst := (inv_at V (l.take n) 0 a0 h).1 i o hol w hg fun j hj hn => by
      refine hr j ?_
      unfold needs at hn
      simp only [List.any_eq_true, Bool.and_eq_true, beq_iff_eq] at hn
      obtain ⟨e, he, hb, rfl⟩ := hn
      exact hdone e (by simpa using he) hb
    rw [Nat.zero_add] at hst
    have hsel' : ∀ cs b, o.op ≠ .select cs b := by
      intro cs b hc
      unfold Region.noSelect at hsel
      simp only [Array.all_eq_true] at hsel
      have := hsel i (by simpa using hlt)
      rw [(Array.getElem?_eq_some_iff.1 ho).2] at this
      rw [hc] at this
      simp at this
    have hsv := stepV_congr (a := fillD (fun j => listed.getD j false) V (l.take n) 0 a0) hsel' (by rw [fill_size, fill_size]) (fun d hd => ?_) (stepV_of_list hst)
    · refine stepV_wpOp ho ?_ hsv
      rintro v w' ⟨hgw, hR⟩
      rw [fill_take (fun j => listed.getD j false) V v (l.take n) 0 a0 i o hol (by rw [Nat.zero_add]; exact hun') fun q o' hq hne d hd1 hd2 => by
        have hqn : q < n := by have := (List.getElem?_eq_some_iff.1 hq).1; rw [htl] at this; exact this
        rw [List.getElem?_take_of_lt hqn] at hq
        have h1 := (hB' i o ho).2 q (by have := (List.getElem?_eq_some_iff.1 hq).1; simpa using this)
        have hq' : l.toArray[q]? = some o' := by simpa using hq
        simp [hne, hq', hd2, hd1] at h1]
      have hcl' := hcl.set hi
      have e : (fun j => if j = 0 + i then true else listed.getD j false) = fun j => (listed.setIfInBounds i true).getD j false := by
        funext j
        rw [Nat.zero_add]
        by_cases hj : j = i
        · subst hj; simp [hlis]
        · rw [if_neg hj, getD_set_ne false (fun e => hj e.symm)]
      rw [e]
      refine ih _ _ w' (by simpa using hs) hcl' (fun t ht => by rw [getD_set_ne false (by omega)]; exact hta t ht) (Gt _ _ _ hg hgw) (fun j hj => ?_) ?_
      · rw [Nat.zero_add]
        by_cases hji : j = i
        · subst hji; rw [if_pos rfl]; exact hR
        · rw [if_neg hji]
          rw [getD_set_ne false (fun e => hji e.symm)] at hj
          exact mono j _ w w' hg hgw (hr j hj)
      · obtain ⟨τ, ρ, e1, e2, _⟩ := rem_split (by simpa using hs) (mem_rem.2 ⟨hlt, hun⟩)
        rw [e2]
        rw [e1] at hf
        simp only [List.length_append, List.length_cons] at hf ⊢
        omega
    · refine fill_at _ _ V d (l.take n) 0 a0 a0 rfl rfl fun q o' hq hod => ?_
      rw [Nat.zero_add]
      have hqn : q < n := by have := (List.getElem?_eq_some_iff.1 hq).1; rw [htl] at this; exact this
      rw [List.getElem?_take_of_lt hqn] at hq
      have hq' : l.toArray[q]? = some o' := by simpa using hq
      have hql : q < l.length := (List.getElem?_eq_some_iff.1 hq).1
      by_cases hqi : q = i
      · subst hqi; rw [hun']; simp
      · have h1 := (hB' i o ho).2 q (by simpa using hql)
        have hdc : (o.looksAt l.toArray).contains d = true := by simpa using hd
        simp only [hqi, beq_iff_eq, hq', Option.bind_some, hod, hdc, Bool.not_true, Bool.false_or, Bool.or_eq_true, Bool.and_eq_true, decide_eq_true_eq, false_or] at h1
        rcases h1.2 with ⟨h2, h3⟩ | ⟨h2, h3⟩
        · rw [decide_eq_true h2]
          unfold needs at h3
          simp only [List.any_eq_true, Bool.and_eq_true, beq_iff_eq] at h3
          obtain ⟨e, he, hb, rfl⟩ := h3
          exact hdone e (by simpa using he) hb
        · rw [decide_eq_false (by omega)]
          by_cases hqd : listed.getD q false = true
          · exfalso
            have := htr.listed hcl q o' i (by omega) hq' (fun e he hb => hcl q o' hq' hqd e he hb) h3
            rw [hun'] at this
            cases this
          · simpa using hqd

/-- THE LAW. -/
theorem wp_region_part {id : Nat} {l : List Oper} {Q : Exit → Act → World → Prop} {a : Act} {w : World} (n m : Nat) (L : Array Bool) (G : World → World → Prop) (R : Nat → Value → World → Prop) (hnm : l.length = n + m) (hL : L = Array.replicate n true ++ Array.replicate m false) (hm : P.follows .mixedOrders = true) (hB : invB l.toArray = true) (hE : lateB l.toArray n = true)
    (Gr : ∀ w, G w w) (Gt : ∀ w w1 w2, G w w1 → G w1 w2 → G w w2) (mono : ∀ i v w1 w2, G w.drew w1 → G w1 w2 → R i v w1 → R i v w2)
    (h : invList P l.toArray G w.drew R (fun a w => wpAny P .any l.toArray (Only (Q .normal)) m L a w) (l.take n) [] a) : (Code.region id l.toArray true).wp P Q a w := by
  refine Code.wp_mono (Q := Only (Q .normal)) (fun e a w hq => by cases e <;> first | exact hq | exact hq.elim) ?_
  refine wp_region_any hm ?_
  subst hL
  obtain rfl : m = l.length - n := by omega
  have h0 := inv_part hB hE Gt mono h l.toArray.size (Array.replicate l.toArray.size false) (fun _ => undef) w.drew (by simp) (fun j oj _ hl => by rw [getD_replicate0] at hl; cases hl) (fun t _ => getD_replicate0 _ _) (Gr _) (fun j hj => by rw [getD_replicate0] at hj; cases hj) ?_
  · rw [fill_none] at h0
    · exact h0
    · intro j _; exact getD_replicate0 _ _
  · unfold rem
    rw [List.filter_eq_self.2 fun j hj => by have := List.mem_range.1 hj; simp at this; simp [this]]
    simp
end
end Go.Proofs.YtjimcjhgjfhbiaaGreat
/- Contracts of apiaryref1: W, Small, Two, Mul, Unit. -/
namespace Go.Proofs.YtjimcjhgjfhbiaaGreat
open Go.RowKit Go.Lib Wd

/-- The halves of a number, as the reference has them. -/
def uH (A : Int) : Int := A % 340282366920938463463374607431768211456 / 18446744073709551616
def uL (A : Int) : Int := A % 18446744073709551616
abbrev vU (A : Int) : Value := .agg #[.int .u64 (uH A), .int .u64 (uL A)]
theorem rep_of (A : Int) : Rep (uH A).toNat (uL A).toNat A ∧ ((uH A).toNat : Int) = uH A ∧ ((uL A).toNat : Int) = uL A := by
  unfold uH uL
  exact ⟨⟨by omega, by omega, by omega⟩, by omega, by omega⟩
theorem Rep.eq {h l : Nat} {A : Int} (hr : Rep h l A) : (h : Int) = uH A ∧ (l : Int) = uL A := by
  obtain ⟨h1, h2, h3⟩ := hr
  unfold uH uL
  exact ⟨by omega, by omega⟩
theorem times_x (a b : Int) (ha : -9223372036854775808 ≤ a ∧ a ≤ 9223372036854775807) (hb : -9223372036854775808 ≤ b ∧ b ≤ 9223372036854775807) (w : World) :
    Calls Tryz.prog 70 #[.int .i64 a, .int .i64 b] w fun e w' => e = .returned (vU (a * b)) ∧ Below w.heap.size w w' :=
  (times_rep a b ha hb w).mono fun _ _ ⟨_, _, he, hr, hb⟩ => ⟨by rw [he, hr.eq.1, hr.eq.2], hb⟩
theorem plus_x (A B : Int) (w : World) : Calls Tryz.prog 72 #[vU A, vU B] w fun e w' => e = .returned (vU (A + B)) ∧ Below w.heap.size w w' := by
  obtain ⟨r1, e1, e2⟩ := rep_of A
  obtain ⟨r2, e3, e4⟩ := rep_of B
  have := plus_rep r1 r2 w
  rw [e1, e2, e3, e4] at this
  exact this.mono fun _ _ ⟨_, _, he, hr, hb⟩ => ⟨by rw [he, hr.eq.1, hr.eq.2], hb⟩
theorem turned_x (A : Int) (w : World) : Calls Tryz.prog 73 #[vU A] w fun e w' => e = .returned (vU (-A)) ∧ Below w.heap.size w w' := by
  obtain ⟨r1, e1, e2⟩ := rep_of A
  have := turned_rep r1 w
  rw [e1, e2] at this
  exact this.mono fun _ _ ⟨_, _, he, hr, hb⟩ => ⟨by rw [he, hr.eq.1, hr.eq.2], hb⟩
theorem w_x (n : Int) (h1 : -9223372036854775808 ≤ n) (h2 : n ≤ 9223372036854775807) (w : World) : Calls Tryz.prog 123 #[.int .i64 n] w fun e w' => e = .returned (vU n) ∧ Below w.heap.size w w' := by
  have e1 : IntKind.u64.wrap n = uL n := by rw [IntKind.wrap_u64]; rfl
  have e2 : IntKind.u64.wrap (n / 9223372036854775808) = uH n := by rw [IntKind.wrap_u64]; unfold uH; omega
  go_enter Tryz.func123, Tryz.ntmps123
  go_wp2
  exact bodyPost_ret (v := vU n) (by simp [results, Tryz.results123, go_sem]) rfl ⟨rfl, (Below.refl _ _).alloc (Nat.le_refl _) _⟩
theorem small_x (A : Int) (hA : -4611686018427387904 ≤ A ∧ A ≤ 4611686018427387904) (w : World) : Calls Tryz.prog 98 #[vU A] w fun e w' => e = .returned (.tuple #[.int .i64 A, .bool true]) ∧ Below w.heap.size w w' := by
  have e1 : IntKind.i64.wrap (uL A) = A := by rw [IntKind.wrap_i64]; unfold uL; omega
  have HW := Lib.hid (w_x A (by omega) (by omega))
  simp only [vU] at *
  generalize uH A = h at *
  generalize uL A = l at *
  go_enter Tryz.func98, Tryz.ntmps98
  have hc : Hid (Two (w.alloc (.cells #[.int .u64 h, .int .u64 l] 123)) w.heap.size (.int .u64 h) (.int .u64 l)) := Two.of_row (t := 123) (f := _) (heap_new _ _ _ rfl)
  have hB : Hid (Below w.heap.size w (w.alloc (.cells #[.int .u64 h, .int .u64 l] 123))) := (Below.refl _ _).alloc (Nat.le_refl _) _
  have hz := World.size_alloc w (.cells #[.int .u64 h, .int .u64 l] 123)
  go_upto_region 2 with (fail)
  generalize w.alloc (.cells #[.int .u64 h, .int .u64 l] 123) = w2 at *
  refine wp_region_inw ([.inl (.int .i64 A), .inl (.agg #[.int .u64 h, .int .u64 l]), .inl (.agg #[.int .u64 h, .int .u64 l]), .inl (.bool false)] : List Want) [] (by kernel_rfl) (by kernel_rfl) (by kernel_rfl) ?_
  refine inw_cons (fun wx hg hd => ?_) (fun v0 => ?_)
  · have hx := ((Below.refl w2.heap.size w2).drew).trans hg
    clear hd hg
    go_wp2
    exact ⟨_, rfl, Below.refl _ _, rfl⟩
  (try simp only [List.nil_append, Act.put, List.setIfInBounds_toArray, List.set_cons_zero, List.set_cons_succ])
  refine inw_cons (fun wx hg hd => ?_) (fun v1 => ?_)
  · have hx := ((Below.refl w2.heap.size w2).drew).trans hg
    (try (have ee : v0 = (.int .i64 A : Value) := hd 0 (by simp) (by decide); subst ee))
    clear hd hg
    go_wp2_with fail
    refine (HW.out _).mono ?_
    rintro e w' ⟨rfl, hb⟩
    go_wp2
    exact ⟨_, rfl, hb, rfl⟩
  (try simp only [List.cons_append, List.nil_append, Act.put, List.setIfInBounds_toArray, List.set_cons_zero, List.set_cons_succ])
  refine inw_cons (fun wx hg hd => ?_) (fun v2 => ?_)
  · have hx := ((Below.refl w2.heap.size w2).drew).trans hg
    clear hd hg
    obtain ⟨k1, k2⟩ := hc.out.later (by omega) hx
    go_wp2
    exact ⟨_, rfl, Below.refl _ _, rfl⟩
  (try simp only [List.cons_append, List.nil_append, Act.put, List.setIfInBounds_toArray, List.set_cons_zero, List.set_cons_succ])
  refine inw_cons (fun wx hg hd => ?_) (fun v3 => ?_)
  · have hx := ((Below.refl w2.heap.size w2).drew).trans hg
    (try (have ee : v1 = (.agg #[.int .u64 h, .int .u64 l] : Value) := hd 1 (by simp) (by decide); subst ee))
    (try (have ee : v2 = (.agg #[.int .u64 h, .int .u64 l] : Value) := hd 2 (by simp) (by decide); subst ee))
    clear hd hg
    go_wp2
    exact ⟨_, rfl, Below.refl _ _, rfl⟩
  (try simp only [List.cons_append, List.nil_append, Act.put, List.setIfInBounds_toArray, List.set_cons_zero, List.set_cons_succ])
  refine inw_done (fun wx hg hd => ?_)
  have hx := ((Below.refl w2.heap.size w2).drew).trans hg
  (have ee : v0 = (.int .i64 A : Value) := hd 0 (by simp) (by kernel_rfl); subst ee)
  (have ee : v1 = (.agg #[.int .u64 h, .int .u64 l] : Value) := hd 1 (by simp) (by kernel_rfl); subst ee)
  (have ee : v2 = (.agg #[.int .u64 h, .int .u64 l] : Value) := hd 2 (by simp) (by kernel_rfl); subst ee)
  (have ee : v3 = (.bool false : Value) := hd 3 (by simp) (by kernel_rfl); subst ee)
  clear hd hg
  (try go_simp)
  have HF : Hid (Below w.heap.size w wx) := hB.out.trans (hx.mono hB.out.size)
  clear hx
  go_wp2
  go_ret2
  exact ⟨rfl, HF.out⟩
theorem two_x (A B : Int) (hA : -4611686018427387904 ≤ A ∧ A ≤ 4611686018427387904) (hB : -4611686018427387904 ≤ B ∧ B ≤ 4611686018427387904) (w : World) :
    Calls Tryz.prog 71 #[vU A, vU B] w fun e w' => e = .returned (.tuple #[.agg #[.int .i64 A, .int .i64 B], .bool true]) ∧ Below w.heap.size w w' := by
  have HA := Lib.hid (small_x A hA)
  have HB := Lib.hid (small_x B hB)
  simp only [vU] at *
  generalize uH A = h at *
  generalize uL A = l at *
  generalize uH B = h2 at *
  generalize uL B = l2 at *
  clear hA hB
  go_enter Tryz.func71, Tryz.ntmps71
  go_wp2_with fail
  refine (HA.out _).mono ?_
  rintro e w1 ⟨rfl, hb1⟩
  have hz := hb1.size
  simp at hz
  have u1 : Two w1 (w.heap.size + 1) (.int .u64 h2) (.int .u64 l2) := (Two.of_row (t := 123) (f := _) (by rw [Below.heap_alloc _ _ _ (by simp)]; exact heap_new _ _ _ (by simp))).later (by simp) hb1
  have U2 : Hid (Two2 w1 (w.heap.size + 2) (.int .i64 0) (.int .i64 0)) := (Two2.of_row (t := 70) (heap_new _ _ _ (by simp))).later (by simp) hb1
  have B1 : Hid (Below w.heap.size w w1) := (((Below.refl _ _).alloc (Nat.le_refl _) _).alloc (by simp) _).alloc (by simp; omega) _ |>.trans (hb1.mono (by simp; omega))
  obtain ⟨k0, k1⟩ := u1
  clear hb1
  go_wp2_with fail
  refine (HB.out _).mono ?_
  rintro e w2 ⟨rfl, hb2⟩
  obtain ⟨⟨c0, c1⟩, f0, f1⟩ := U2.out.later (by omega) hb2
  have B2 := Lib.hid (B1.out.trans (hb2.mono B1.out.size))
  have hz2 := hb2.size
  clear hb2 k0 k1
  go_wp2
  exact bodyPost_ret (v := .tuple #[.agg #[.int .i64 A, .int .i64 B], .bool true]) (by simp [results, Tryz.results71, go_sem, *]) rfl ⟨rfl, (B2.out.setCell (p := ⟨w.heap.size + 1 + 1, 0, none⟩) (by simp; omega) _).setCell (p := ⟨w.heap.size + 1 + 1, 1, none⟩) (by simp; omega) _⟩
set_option maxHeartbeats 1000000 in
theorem runit_in (k : Nat) (hk : k < 6) (w : World) :
    Calls Tryz.prog 52 #[.int .i64 k] w fun e w' => e = .returned (vE (unitE k)) ∧ Below w.heap.size w w' := by
  have hu : (k = 0 ∧ unitE k = (1, 0)) ∨ (k = 1 ∧ unitE k = (0, 1)) ∨ (k = 2 ∧ unitE k = (-1, 1)) ∨ (k = 3 ∧ unitE k = (-1, 0)) ∨ (k = 4 ∧ unitE k = (0, -1)) ∨ (k = 5 ∧ unitE k = (1, -1)) := by
    rcases (show k = 0 ∨ k = 1 ∨ k = 2 ∨ k = 3 ∨ k = 4 ∨ k = 5 by omega) with rfl | rfl | rfl | rfl | rfl | rfl <;> simp [unitE]
  rcases hu with ⟨rfl, e⟩ | ⟨rfl, e⟩ | ⟨rfl, e⟩ | ⟨rfl, e⟩ | ⟨rfl, e⟩ | ⟨rfl, e⟩ <;> rw [e] <;> clear e hk <;>
  · go_enter Tryz.func52, Tryz.ntmps52
    go_wp2
    exact bodyPost_ret (by simp [results, Tryz.results52, go_sem]) rfl ⟨rfl, by
      exact ((Below.refl _ _).alloc (Nat.le_refl _) _).alloc (by simp) _⟩
set_option maxRecDepth 100000 in
set_option maxHeartbeats 8000000 in
theorem rmul_in (y z : E2) (hy : Sm 1152921504606846976 y) (hz : Sm 1152921504606846976 z) (h : Sm 4611686018427387904 (mulE y z)) (w : World) :
    Calls Tryz.prog 51 #[vE y, vE z] w fun e w' => e = .returned (.tuple #[vE (mulE y z), .bool true]) ∧ Below w.heap.size w w' := by
  obtain ⟨a, b⟩ := y
  obtain ⟨c, d⟩ := z
  unfold Sm mulE at *
  simp only at hy hz h
  have T1 := Lib.hid (times_x a c (by omega) (by omega))
  have T2 := Lib.hid (times_x b d (by omega) (by omega))
  have T3 := Lib.hid (times_x a d (by omega) (by omega))
  have T4 := Lib.hid (times_x b c (by omega) (by omega))
  have R1 := Lib.hid (turned_x (b * d))
  have P1 := Lib.hid (plus_x (a * c) (-(b * d)))
  have P2 := Lib.hid (plus_x (a * d) (b * c))
  have P3 := Lib.hid (plus_x (a * d + b * c) (b * d))
  rw [show a * c + -(b * d) = a * c - b * d by omega] at P1
  have W1 := Lib.hid (two_x (a * c - b * d) (a * d + b * c + b * d) (by omega) (by omega))
  simp only [vE, vU] at *
  clear hy hz h
  generalize a * c - b * d = x at *
  generalize a * d + b * c + b * d = y at *
  generalize a * d + b * c = s at *
  generalize a * d = ad at *
  generalize b * c = bc at *
  generalize a * c = ac at *
  generalize b * d = bd at *
  go_enter Tryz.func51, Tryz.ntmps51
  go_wp2_with fail
  refine (T2.out _).mono ?_
  rintro e w1 ⟨rfl, hb1⟩
  have hz := hb1.size
  simp at hz
  have h2 : Two w1 w.heap.size (.int .i64 a) (.int .i64 b) := (Two.of_row (t := 70) (f := _) (by rw [Below.heap_alloc _ _ _ (by simp; omega), Below.heap_alloc _ _ _ (by simp)]; exact heap_new _ _ _ rfl)).later (by simp; omega) hb1
  have h3 : Two w1 (w.heap.size + 1) (.int .i64 c) (.int .i64 d) := (Two.of_row (t := 70) (f := _) (by rw [Below.heap_alloc _ _ _ (by simp)]; exact heap_new _ _ _ (by simp))).later (by simp) hb1
  have h5 : Two2 w1 (w.heap.size + 2) (.int .i64 0) (.int .i64 0) := (Two2.of_row (t := 70) (heap_new _ _ _ (by simp))).later (by simp) hb1
  have hq : Below w.heap.size w w1 := (((Below.refl _ _).alloc (Nat.le_refl _) _).alloc (by simp) _).alloc (by simp; omega) _ |>.trans (hb1.mono (by simp; omega))
  have h4 : Two (w1.alloc (.cells #[.int .u64 (uH bd), .int .u64 (uL bd)] 123)) w1.heap.size (.int .u64 (uH bd)) (.int .u64 (uL bd)) := Two.of_row (f := _) (heap_new _ _ _ rfl)
  have h2 := h2.alloc (by omega) (.cells #[.int .u64 (uH bd), .int .u64 (uL bd)] 123)
  have h3 := h3.alloc (by omega) (.cells #[.int .u64 (uH bd), .int .u64 (uL bd)] 123)
  have h5 := h5.alloc (by omega) (.cells #[.int .u64 (uH bd), .int .u64 (uL bd)] 123)
  have HQ := Lib.hid (hq.alloc (by omega) (.cells #[.int .u64 (uH bd), .int .u64 (uL bd)] 123))
  have hs : w1.heap.size < (w1.alloc (.cells #[.int .u64 (uH bd), .int .u64 (uL bd)] 123)).heap.size := by simp
  go_upto_region 2 with (fail)
  generalize w1.alloc (.cells #[.int .u64 (uH bd), .int .u64 (uL bd)] 123) = w2 at *
  have HC : Hid (∀ wx, Below w2.heap.size w2 wx → Two wx w.heap.size (.int .i64 a) (.int .i64 b) ∧ Two wx (w.heap.size + 1) (.int .i64 c) (.int .i64 d) ∧ Two wx w1.heap.size (.int .u64 (uH bd)) (.int .u64 (uL bd)) ∧ Two2 wx (w.heap.size + 2) (.int .i64 0) (.int .i64 0)) := fun wx hx => ⟨h2.later (by omega) hx, h3.later (by omega) hx, h4.later (by omega) hx, h5.later (by omega) hx⟩
  have hsz2 : w.heap.size + 2 < w2.heap.size := by omega
  clear h2 h3 h4 h5 hb1 hq
  refine wp_region_part 22 4 #[true, true, true, true, true, true, true, true, true, true, true, true, true, true, true, true, true, true, true, true, true, true, false, false, false, false] (fun w w' => Below w.heap.size w w') (fun qi_ qv_ _ => qv_ = ([.pointer (some ⟨w.heap.size, 0, none⟩), .int .i64 a, .pointer (some ⟨w.heap.size + 1, 0, none⟩), .int .i64 c, .agg #[.int .u64 (uH ac), .int .u64 (uL ac)], .agg #[.int .u64 (uH bd), .int .u64 (uL bd)], .agg #[.int .u64 (uH (-bd)), .int .u64 (uL (-bd))], .agg #[.int .u64 (uH x), .int .u64 (uL x)], .pointer (some ⟨w.heap.size, 0, none⟩), .int .i64 a, .pointer (some ⟨w.heap.size + 1, 1, none⟩), .int .i64 d, .agg #[.int .u64 (uH ad), .int .u64 (uL ad)], .pointer (some ⟨w.heap.size, 1, none⟩), .int .i64 b, .pointer (some ⟨w.heap.size + 1, 0, none⟩), .int .i64 c, .agg #[.int .u64 (uH bc), .int .u64 (uL bc)], .agg #[.int .u64 (uH s), .int .u64 (uL s)], .agg #[.int .u64 (uH bd), .int .u64 (uL bd)], .agg #[.int .u64 (uH y), .int .u64 (uL y)], .tuple #[.agg #[.int .i64 x, .int .i64 y], .bool true]] : List Value).getD qi_ undef) rfl rfl (by kernel_rfl) (by kernel_rfl) (by kernel_rfl) (fun _ => Below.refl _ _) (fun _ _ _ h1 h2 => below_later h1 h1.size h2) (fun _ _ _ _ _ _ h => h) ?_
  simp only [List.take_succ_cons, List.take_zero]
  refine inv_cons (fun wx hg hd => ?_) (fun v0 => ?_)
  · have hx := ((Below.refl w2.heap.size w2).drew).trans hg
    clear hd hg
    go_wp2
    exact ⟨_, rfl, Below.refl _ _, rfl⟩
  (try simp only [List.nil_append, Act.put, List.setIfInBounds_toArray, List.set_cons_zero, List.set_cons_succ])
  refine inv_cons (fun wx hg hd => ?_) (fun v1 => ?_)
  · have hx := ((Below.refl w2.heap.size w2).drew).trans hg
    (try (have ee : v0 = (.pointer (some ⟨w.heap.size, 0, none⟩) : Value) := hd 0 (by simp) (by decide); subst ee))
    clear hd hg
    obtain ⟨⟨k1, k2⟩, ⟨k3, k4⟩, ⟨k5, k6⟩, _⟩ := HC.out _ hx
    go_wp2
    exact ⟨_, rfl, Below.refl _ _, rfl⟩
  (try simp only [List.cons_append, List.nil_append, Act.put, List.setIfInBounds_toArray, List.set_cons_zero, List.set_cons_succ])
  refine inv_cons (fun wx hg hd => ?_) (fun v2 => ?_)
  · have hx := ((Below.refl w2.heap.size w2).drew).trans hg
    clear hd hg
    go_wp2
    exact ⟨_, rfl, Below.refl _ _, rfl⟩
  (try simp only [List.cons_append, List.nil_append, Act.put, List.setIfInBounds_toArray, List.set_cons_zero, List.set_cons_succ])
  refine inv_cons (fun wx hg hd => ?_) (fun v3 => ?_)
  · have hx := ((Below.refl w2.heap.size w2).drew).trans hg
    (try (have ee : v2 = (.pointer (some ⟨w.heap.size + 1, 0, none⟩) : Value) := hd 2 (by simp) (by decide); subst ee))
    clear hd hg
    obtain ⟨⟨k1, k2⟩, ⟨k3, k4⟩, ⟨k5, k6⟩, _⟩ := HC.out _ hx
    go_wp2
    exact ⟨_, rfl, Below.refl _ _, rfl⟩
  (try simp only [List.cons_append, List.nil_append, Act.put, List.setIfInBounds_toArray, List.set_cons_zero, List.set_cons_succ])
  refine inv_cons (fun wx hg hd => ?_) (fun v4 => ?_)
  · have hx := ((Below.refl w2.heap.size w2).drew).trans hg
    (try (have ee : v1 = (.int .i64 a : Value) := hd 1 (by simp) (by decide); subst ee))
    (try (have ee : v3 = (.int .i64 c : Value) := hd 3 (by simp) (by decide); subst ee))
    clear hd hg
    go_wp2_with fail
    refine (T1.out _).mono ?_
    rintro e w' ⟨rfl, hb⟩
    go_wp2
    exact ⟨_, rfl, hb, rfl⟩
  (try simp only [List.cons_append, List.nil_append, Act.put, List.setIfInBounds_toArray, List.set_cons_zero, List.set_cons_succ])
  refine inv_cons (fun wx hg hd => ?_) (fun v5 => ?_)
  · have hx := ((Below.refl w2.heap.size w2).drew).trans hg
    clear hd hg
    obtain ⟨⟨k1, k2⟩, ⟨k3, k4⟩, ⟨k5, k6⟩, _⟩ := HC.out _ hx
    go_wp2
    exact ⟨_, rfl, Below.refl _ _, rfl⟩
  (try simp only [List.cons_append, List.nil_append, Act.put, List.setIfInBounds_toArray, List.set_cons_zero, List.set_cons_succ])
  refine inv_cons (fun wx hg hd => ?_) (fun v6 => ?_)
  · have hx := ((Below.refl w2.heap.size w2).drew).trans hg
    (try (have ee : v5 = (.agg #[.int .u64 (uH bd), .int .u64 (uL bd)] : Value) := hd 5 (by simp) (by decide); subst ee))
    clear hd hg
    go_wp2_with fail
    refine (R1.out _).mono ?_
    rintro e w' ⟨rfl, hb⟩
    go_wp2
    exact ⟨_, rfl, hb, rfl⟩
  (try simp only [List.cons_append, List.nil_append, Act.put, List.setIfInBounds_toArray, List.set_cons_zero, List.set_cons_succ])
  refine inv_cons (fun wx hg hd => ?_) (fun v7 => ?_)
  · have hx := ((Below.refl w2.heap.size w2).drew).trans hg
    (try (have ee : v4 = (.agg #[.int .u64 (uH ac), .int .u64 (uL ac)] : Value) := hd 4 (by simp) (by decide); subst ee))
    (try (have ee : v6 = (.agg #[.int .u64 (uH (-bd)), .int .u64 (uL (-bd))] : Value) := hd 6 (by simp) (by decide); subst ee))
    clear hd hg
    go_wp2_with fail
    refine (P1.out _).mono ?_
    rintro e w' ⟨rfl, hb⟩
    go_wp2
    exact ⟨_, rfl, hb, rfl⟩
  (try simp only [List.cons_append, List.nil_append, Act.put, List.setIfInBounds_toArray, List.set_cons_zero, List.set_cons_succ])
  refine inv_cons (fun wx hg hd => ?_) (fun v8 => ?_)
  · have hx := ((Below.refl w2.heap.size w2).drew).trans hg
    clear hd hg
    go_wp2
    exact ⟨_, rfl, Below.refl _ _, rfl⟩
  (try simp only [List.cons_append, List.nil_append, Act.put, List.setIfInBounds_toArray, List.set_cons_zero, List.set_cons_succ])
  refine inv_cons (fun wx hg hd => ?_) (fun v9 => ?_)
  · have hx := ((Below.refl w2.heap.size w2).drew).trans hg
    (try (have ee : v8 = (.pointer (some ⟨w.heap.size, 0, none⟩) : Value) := hd 8 (by simp) (by decide); subst ee))
    clear hd hg
    obtain ⟨⟨k1, k2⟩, ⟨k3, k4⟩, ⟨k5, k6⟩, _⟩ := HC.out _ hx
    go_wp2
    exact ⟨_, rfl, Below.refl _ _, rfl⟩
  (try simp only [List.cons_append, List.nil_append, Act.put, List.setIfInBounds_toArray, List.set_cons_zero, List.set_cons_succ])
  refine inv_cons (fun wx hg hd => ?_) (fun v10 => ?_)
  · have hx := ((Below.refl w2.heap.size w2).drew).trans hg
    clear hd hg
    go_wp2
    exact ⟨_, rfl, Below.refl _ _, rfl⟩
  (try simp only [List.cons_append, List.nil_append, Act.put, List.setIfInBounds_toArray, List.set_cons_zero, List.set_cons_succ])
  refine inv_cons (fun wx hg hd => ?_) (fun v11 => ?_)
  · have hx := ((Below.refl w2.heap.size w2).drew).trans hg
    (try (have ee : v10 = (.pointer (some ⟨w.heap.size + 1, 1, none⟩) : Value) := hd 10 (by simp) (by decide); subst ee))
    clear hd hg
    obtain ⟨⟨k1, k2⟩, ⟨k3, k4⟩, ⟨k5, k6⟩, _⟩ := HC.out _ hx
    go_wp2
    exact ⟨_, rfl, Below.refl _ _, rfl⟩
  (try simp only [List.cons_append, List.nil_append, Act.put, List.setIfInBounds_toArray, List.set_cons_zero, List.set_cons_succ])
  refine inv_cons (fun wx hg hd => ?_) (fun v12 => ?_)
  · have hx := ((Below.refl w2.heap.size w2).drew).trans hg
    (try (have ee : v9 = (.int .i64 a : Value) := hd 9 (by simp) (by decide); subst ee))
    (try (have ee : v11 = (.int .i64 d : Value) := hd 11 (by simp) (by decide); subst ee))
    clear hd hg
    go_wp2_with fail
    refine (T3.out _).mono ?_
    rintro e w' ⟨rfl, hb⟩
    go_wp2
    exact ⟨_, rfl, hb, rfl⟩
  (try simp only [List.cons_append, List.nil_append, Act.put, List.setIfInBounds_toArray, List.set_cons_zero, List.set_cons_succ])
  refine inv_cons (fun wx hg hd => ?_) (fun v13 => ?_)
  · have hx := ((Below.refl w2.heap.size w2).drew).trans hg
    clear hd hg
    go_wp2
    exact ⟨_, rfl, Below.refl _ _, rfl⟩
  (try simp only [List.cons_append, List.nil_append, Act.put, List.setIfInBounds_toArray, List.set_cons_zero, List.set_cons_succ])
  refine inv_cons (fun wx hg hd => ?_) (fun v14 => ?_)
  · have hx := ((Below.refl w2.heap.size w2).drew).trans hg
    (try (have ee : v13 = (.pointer (some ⟨w.heap.size, 1, none⟩) : Value) := hd 13 (by simp) (by decide); subst ee))
    clear hd hg
    obtain ⟨⟨k1, k2⟩, ⟨k3, k4⟩, ⟨k5, k6⟩, _⟩ := HC.out _ hx
    go_wp2
    exact ⟨_, rfl, Below.refl _ _, rfl⟩
  (try simp only [List.cons_append, List.nil_append, Act.put, List.setIfInBounds_toArray, List.set_cons_zero, List.set_cons_succ])
  refine inv_cons (fun wx hg hd => ?_) (fun v15 => ?_)
  · have hx := ((Below.refl w2.heap.size w2).drew).trans hg
    clear hd hg
    go_wp2
    exact ⟨_, rfl, Below.refl _ _, rfl⟩
  (try simp only [List.cons_append, List.nil_append, Act.put, List.setIfInBounds_toArray, List.set_cons_zero, List.set_cons_succ])
  refine inv_cons (fun wx hg hd => ?_) (fun v16 => ?_)
  · have hx := ((Below.refl w2.heap.size w2).drew).trans hg
    (try (have ee : v15 = (.pointer (some ⟨w.heap.size + 1, 0, none⟩) : Value) := hd 15 (by simp) (by decide); subst ee))
    clear hd hg
    obtain ⟨⟨k1, k2⟩, ⟨k3, k4⟩, ⟨k5, k6⟩, _⟩ := HC.out _ hx
    go_wp2
    exact ⟨_, rfl, Below.refl _ _, rfl⟩
  (try simp only [List.cons_append, List.nil_append, Act.put, List.setIfInBounds_toArray, List.set_cons_zero, List.set_cons_succ])
  refine inv_cons (fun wx hg hd => ?_) (fun v17 => ?_)
  · have hx := ((Below.refl w2.heap.size w2).drew).trans hg
    (try (have ee : v14 = (.int .i64 b : Value) := hd 14 (by simp) (by decide); subst ee))
    (try (have ee : v16 = (.int .i64 c : Value) := hd 16 (by simp) (by decide); subst ee))
    clear hd hg
    go_wp2_with fail
    refine (T4.out _).mono ?_
    rintro e w' ⟨rfl, hb⟩
    go_wp2
    exact ⟨_, rfl, hb, rfl⟩
  (try simp only [List.cons_append, List.nil_append, Act.put, List.setIfInBounds_toArray, List.set_cons_zero, List.set_cons_succ])
  refine inv_cons (fun wx hg hd => ?_) (fun v18 => ?_)
  · have hx := ((Below.refl w2.heap.size w2).drew).trans hg
    (try (have ee : v12 = (.agg #[.int .u64 (uH ad), .int .u64 (uL ad)] : Value) := hd 12 (by simp) (by decide); subst ee))
    (try (have ee : v17 = (.agg #[.int .u64 (uH bc), .int .u64 (uL bc)] : Value) := hd 17 (by simp) (by decide); subst ee))
    clear hd hg
    go_wp2_with fail
    refine (P2.out _).mono ?_
    rintro e w' ⟨rfl, hb⟩
    go_wp2
    exact ⟨_, rfl, hb, rfl⟩
  (try simp only [List.cons_append, List.nil_append, Act.put, List.setIfInBounds_toArray, List.set_cons_zero, List.set_cons_succ])
  refine inv_cons (fun wx hg hd => ?_) (fun v19 => ?_)
  · have hx := ((Below.refl w2.heap.size w2).drew).trans hg
    clear hd hg
    obtain ⟨⟨k1, k2⟩, ⟨k3, k4⟩, ⟨k5, k6⟩, _⟩ := HC.out _ hx
    go_wp2
    exact ⟨_, rfl, Below.refl _ _, rfl⟩
  (try simp only [List.cons_append, List.nil_append, Act.put, List.setIfInBounds_toArray, List.set_cons_zero, List.set_cons_succ])
  refine inv_cons (fun wx hg hd => ?_) (fun v20 => ?_)
  · have hx := ((Below.refl w2.heap.size w2).drew).trans hg
    (try (have ee : v18 = (.agg #[.int .u64 (uH s), .int .u64 (uL s)] : Value) := hd 18 (by simp) (by decide); subst ee))
    (try (have ee : v19 = (.agg #[.int .u64 (uH bd), .int .u64 (uL bd)] : Value) := hd 19 (by simp) (by decide); subst ee))
    clear hd hg
    go_wp2_with fail
    refine (P3.out _).mono ?_
    rintro e w' ⟨rfl, hb⟩
    go_wp2
    exact ⟨_, rfl, hb, rfl⟩
  (try simp only [List.cons_append, List.nil_append, Act.put, List.setIfInBounds_toArray, List.set_cons_zero, List.set_cons_succ])
  refine inv_cons (fun wx hg hd => ?_) (fun v21 => ?_)
  · have hx := ((Below.refl w2.heap.size w2).drew).trans hg
    (try (have ee : v7 = (.agg #[.int .u64 (uH x), .int .u64 (uL x)] : Value) := hd 7 (by simp) (by decide); subst ee))
    (try (have ee : v20 = (.agg #[.int .u64 (uH y), .int .u64 (uL y)] : Value) := hd 20 (by simp) (by decide); subst ee))
    clear hd hg
    go_wp2_with fail
    refine (W1.out _).mono ?_
    rintro e w' ⟨rfl, hb⟩
    go_wp2
    exact ⟨_, rfl, hb, rfl⟩
  (try simp only [List.cons_append, List.nil_append, Act.put, List.setIfInBounds_toArray, List.set_cons_zero, List.set_cons_succ])
  refine inv_done (fun wx hg hd => ?_)
  have hx := ((Below.refl w2.heap.size w2).drew).trans hg
  (have ee : v0 = (.pointer (some ⟨w.heap.size, 0, none⟩) : Value) := hd 0 (by simp); subst ee)
  (have ee : v1 = (.int .i64 a : Value) := hd 1 (by simp); subst ee)
  (have ee : v2 = (.pointer (some ⟨w.heap.size + 1, 0, none⟩) : Value) := hd 2 (by simp); subst ee)
  (have ee : v3 = (.int .i64 c : Value) := hd 3 (by simp); subst ee)
  (have ee : v4 = (.agg #[.int .u64 (uH ac), .int .u64 (uL ac)] : Value) := hd 4 (by simp); subst ee)
  (have ee : v5 = (.agg #[.int .u64 (uH bd), .int .u64 (uL bd)] : Value) := hd 5 (by simp); subst ee)
  (have ee : v6 = (.agg #[.int .u64 (uH (-bd)), .int .u64 (uL (-bd))] : Value) := hd 6 (by simp); subst ee)
  (have ee : v7 = (.agg #[.int .u64 (uH x), .int .u64 (uL x)] : Value) := hd 7 (by simp); subst ee)
  (have ee : v8 = (.pointer (some ⟨w.heap.size, 0, none⟩) : Value) := hd 8 (by simp); subst ee)
  (have ee : v9 = (.int .i64 a : Value) := hd 9 (by simp); subst ee)
  (have ee : v10 = (.pointer (some ⟨w.heap.size + 1, 1, none⟩) : Value) := hd 10 (by simp); subst ee)
  (have ee : v11 = (.int .i64 d : Value) := hd 11 (by simp); subst ee)
  (have ee : v12 = (.agg #[.int .u64 (uH ad), .int .u64 (uL ad)] : Value) := hd 12 (by simp); subst ee)
  (have ee : v13 = (.pointer (some ⟨w.heap.size, 1, none⟩) : Value) := hd 13 (by simp); subst ee)
  (have ee : v14 = (.int .i64 b : Value) := hd 14 (by simp); subst ee)
  (have ee : v15 = (.pointer (some ⟨w.heap.size + 1, 0, none⟩) : Value) := hd 15 (by simp); subst ee)
  (have ee : v16 = (.int .i64 c : Value) := hd 16 (by simp); subst ee)
  (have ee : v17 = (.agg #[.int .u64 (uH bc), .int .u64 (uL bc)] : Value) := hd 17 (by simp); subst ee)
  (have ee : v18 = (.agg #[.int .u64 (uH s), .int .u64 (uL s)] : Value) := hd 18 (by simp); subst ee)
  (have ee : v19 = (.agg #[.int .u64 (uH bd), .int .u64 (uL bd)] : Value) := hd 19 (by simp); subst ee)
  (have ee : v20 = (.agg #[.int .u64 (uH y), .int .u64 (uL y)] : Value) := hd 20 (by simp); subst ee)
  (have ee : v21 = (.tuple #[.agg #[.int .i64 x, .int .i64 y], .bool true] : Value) := hd 21 (by simp); subst ee)
  clear hd hg
  have HF : Hid (Below w.heap.size w wx) := HQ.out.trans (hx.mono HQ.out.size)
  obtain ⟨-, -, -, ⟨c0, c1⟩, f0, f1⟩ := HC.out _ hx
  have hzx := hx.size
  clear hx HC
  refine wpAny_take (i := 22) (v := .agg #[.int .i64 x, .int .i64 y]) rfl (by kernel_rfl) (by kernel_rfl) (by kernel_rfl) (fun _ _ _ h => h) (Or.inl ⟨by rfl, ?_⟩) ?_
  · intro w
    go_simp
  (try simp only [Act.put, List.setIfInBounds_toArray, List.set_cons_zero, List.set_cons_succ])
  refine wpAny_take (i := 23) (v := .bool true) rfl (by kernel_rfl) (by kernel_rfl) (by kernel_rfl) (fun _ _ _ h => h) (Or.inl ⟨by rfl, ?_⟩) ?_
  · intro w
    go_simp
  (try simp only [Act.put, List.setIfInBounds_toArray, List.set_cons_zero, List.set_cons_succ])
  refine wpAny_ready (rs := [24]) (by kernel_rfl) (by simp) ?_
  refine AllReady.cons rfl (fun K hK => ?_) AllReady.nil
  go_simp
  refine hK _ _ ?_
  clear hK K
  refine wpAny_ready (rs := [25]) (by kernel_rfl) (by simp) ?_
  refine AllReady.cons rfl (fun K hK => ?_) AllReady.nil
  go_simp
  refine hK _ _ ?_
  clear hK K
  refine wpAny_done (by kernel_rfl) ?_ _
  refine only_done ?_
  go_wp2
  exact bodyPost_ret (v := .tuple #[.agg #[.int .i64 x, .int .i64 y], .bool true]) (by simp [results, Tryz.results51, go_sem, *]) rfl ⟨rfl, (HF.out.setCell (p := ⟨w.heap.size + 1 + 1, 0, none⟩) (by simp; omega) _).setCell (p := ⟨w.heap.size + 1 + 1, 1, none⟩) (by simp; omega) _⟩
end Go.Proofs.YtjimcjhgjfhbiaaGreat
/- Contracts of apiaryref1: Floor, size, holds, Round. -/
namespace Go.Proofs.YtjimcjhgjfhbiaaGreat
open Go.RowKit Go.Lib Wd

theorem rfloor_any (a d : Int) (hd : 0 < d) (hd2 : d ≤ 4611686018427387903) (h1 : -4611686018427387904 ≤ a) (h2 : a ≤ 4611686018427387903) (w : World) :
    Calls Tryz.prog 77 #[.int .i64 a, .int .i64 d] w fun e w' => e = .returned (.tuple #[.int .i64 (a / d), .int .i64 (a % d), .bool true]) ∧ Below w.heap.size w w' := by
  have hb1 := Int.ediv_mul_le a (show d ≠ 0 by omega)
  have q0 : d ≠ 0 := by omega
  have q9 : d ≠ -1 := by omega
  have hq : -4611686018427387905 ≤ a.tdiv d ∧ a.tdiv d ≤ 4611686018427387905 := by
    have := Int.natAbs_tdiv_le_natAbs a d
    omega
  obtain ⟨hq1, hq2⟩ := hq
  rcases floor_nums (a := a) hd with ⟨k1, k2, k3, k4, k5⟩ | ⟨k1, k2, k3⟩
  · rw [← k2, ← k3]
    clear k2 k3 hb1
    generalize hx : a.tdiv d = x at *
    generalize hy : a.tmod d = y at *
    go_enter Tryz.func77, Tryz.ntmps77
    go_upto_region 3 with (fail)
    go_quiet (fail)
    go_wp2
    go_ret3
    exact ⟨rfl, below_drewN (Below.refl _ _) _⟩
  · rw [← k2, ← k3]
    clear k2 k3 hb1
    generalize hx : a.tdiv d = x at *
    generalize hy : a.tmod d = y at *
    go_enter Tryz.func77, Tryz.ntmps77
    go_upto_region 3 with (fail)
    go_quiet (fail)
    go_wp2
    go_ret3
    exact ⟨rfl, below_drewN (Below.refl _ _) _⟩
theorem size_any (n : Int) (h1 : -4611686018427387904 ≤ n) (h2 : n ≤ 4611686018427387904) (w : World) : Calls Tryz.prog 102 #[.int .i64 n] w fun e w' => e = .returned (.int .i64 (n.natAbs : Int)) ∧ w' = w := by
  by_cases h : n < 0
  · have e : (n.natAbs : Int) = -n := by omega
    rw [e]
    have q : decide (n < 0) = true := decide_eq_true h
    go_enter Tryz.func102, Tryz.ntmps102
    go_wp2
    go_ret
    exact ⟨rfl, rfl⟩
  · have e : (n.natAbs : Int) = n := by omega
    rw [e]
    have q : decide (n < 0) = false := decide_eq_false h
    go_enter Tryz.func102, Tryz.ntmps102
    go_wp2
    go_ret
    exact ⟨rfl, rfl⟩
theorem near_abs (s t d : Int) : nearB s t d = (decide (((2 * s + t).natAbs : Int) ≤ d) && decide (((s + 2 * t).natAbs : Int) ≤ d) && decide (((s - t).natAbs : Int) ≤ d)) := by
  unfold nearB
  rw [Bool.eq_iff_iff]
  simp only [Bool.and_eq_true, decide_eq_true_eq]
  omega
theorem holds_any (s t d : Int) (hs : -9007199254740992 ≤ s ∧ s ≤ 9007199254740992) (ht : -9007199254740992 ≤ t ∧ t ≤ 9007199254740992) (w : World) :
    Calls Tryz.prog 78 #[.int .i64 s, .int .i64 t, .int .i64 d] w fun e w' => e = .returned (.bool (nearB s t d)) ∧ w' = w := by
  have S1 := Lib.hid (size_any (2 * s + t) (by omega) (by omega))
  have S2 := Lib.hid (size_any (s + 2 * t) (by omega) (by omega))
  have S3 := Lib.hid (size_any (s - t) (by omega) (by omega))
  rw [near_abs]
  generalize ((2 * s + t).natAbs : Int) = x1 at *
  generalize ((s + 2 * t).natAbs : Int) = x2 at *
  generalize ((s - t).natAbs : Int) = x3 at *
  obtain ⟨b1, hb1⟩ : ∃ b, decide (x1 ≤ d) = b := ⟨_, rfl⟩
  obtain ⟨b2, hb2⟩ : ∃ b, decide (x2 ≤ d) = b := ⟨_, rfl⟩
  obtain ⟨b3, hb3⟩ : ∃ b, decide (x3 ≤ d) = b := ⟨_, rfl⟩
  rw [hb1, hb2, hb3]
  cases b1
  · rw [Bool.false_and, Bool.false_and]
    go_enter Tryz.func78, Tryz.ntmps78
    go_wp2_with fail
    refine (S1.out _).mono ?_
    rintro e w1 ⟨rfl, rfl⟩
    go_wp2_with fail
    go_ret
    exact ⟨rfl, rfl⟩
  · rw [Bool.true_and]
    cases b2
    · rw [Bool.false_and]
      go_enter Tryz.func78, Tryz.ntmps78
      go_wp2_with fail
      refine (S1.out _).mono ?_
      rintro e w1 ⟨rfl, rfl⟩
      go_wp2_with fail
      refine (S2.out _).mono ?_
      rintro e w1 ⟨rfl, rfl⟩
      go_wp2_with fail
      go_ret
      exact ⟨rfl, rfl⟩
    · rw [Bool.true_and]
      go_enter Tryz.func78, Tryz.ntmps78
      go_wp2_with fail
      refine (S1.out _).mono ?_
      rintro e w1 ⟨rfl, rfl⟩
      go_wp2_with fail
      refine (S2.out _).mono ?_
      rintro e w1 ⟨rfl, rfl⟩
      go_wp2_with fail
      refine (S3.out _).mono ?_
      rintro e w1 ⟨rfl, rfl⟩
      go_wp2_with fail
      go_ret
      exact ⟨rfl, rfl⟩
theorem corner_in (s t d : Int) : 0 ≤ (cornerE s t d).1 ∧ (cornerE s t d).1 ≤ 1 ∧ 0 ≤ (cornerE s t d).2 ∧ (cornerE s t d).2 ≤ 1 := by
  unfold cornerE
  (repeat' split) <;> simp
theorem times_small {i d : Int} (hd : 0 < d) (h1 : -1 ≤ i) (h2 : i ≤ 2) : -d ≤ i * d ∧ i * d ≤ 2 * d := by
  rcases (show i = -1 ∨ i = 0 ∨ i = 1 ∨ i = 2 by omega) with rfl | rfl | rfl | rfl <;> omega
theorem quot_in {a d : Int} (hd : 1 ≤ d) (hd2 : d ≤ 1125899906842624) (h1 : -1152921504606846976 ≤ a) (h2 : a ≤ 1152921504606846976) : -1154047404513689600 ≤ a / d ∧ a / d ≤ 1152921504606846976 := by
  have h1 := Int.mul_ediv_add_emod a d
  have h3 := Int.emod_nonneg a (show d ≠ 0 by omega)
  have h4 := Int.emod_lt_of_pos a (show 0 < d by omega)
  constructor
  · rcases Int.lt_or_le (a / d) 0 with h | h
    · have := Int.mul_le_mul_of_nonpos_right (show (1 : Int) ≤ d by omega) (show a / d ≤ 0 by omega)
      omega
    · omega
  · rcases Int.lt_or_le (a / d) 0 with h | h
    · omega
    · have := Int.mul_le_mul_of_nonneg_right (show (1 : Int) ≤ d by omega) h
      omega
set_option maxRecDepth 100000 in
set_option maxHeartbeats 4000000 in
theorem rround_in (u : E2) (d : Int) (hd : 1 ≤ d) (hd2 : d ≤ 1125899906842624) (hu : Sm 1152921504606846976 u) (w : World) :
    Calls Tryz.prog 59 #[vE u, .int .i64 d] w fun e w' => e = .returned (.tuple #[vE (roundE u d), .bool true]) ∧ Below w.heap.size w w' := by
  obtain ⟨a, b⟩ := u
  unfold Sm at hu
  simp only at hu
  obtain ⟨hu1, hu2, hu3, hu4⟩ := hu
  have F1 := Lib.hid (rfloor_any a d (by omega) (by omega) (by omega) (by omega))
  have F2 := Lib.hid (rfloor_any b d (by omega) (by omega) (by omega) (by omega))
  have HR : Hid (roundE (a, b) d = (a / d + (cornerE (a % d) (b % d) d).1, b / d + (cornerE (a % d) (b % d) d).2)) := rfl
  have hs0 := Int.emod_nonneg a (show d ≠ 0 by omega)
  have hs1 := Int.emod_lt_of_pos a (show 0 < d by omega)
  have ht0 := Int.emod_nonneg b (show d ≠ 0 by omega)
  have ht1 := Int.emod_lt_of_pos b (show 0 < d by omega)
  obtain ⟨hq1a, hq1b⟩ := quot_in hd hd2 hu1 hu2
  obtain ⟨hq2a, hq2b⟩ := quot_in hd hd2 hu3 hu4
  show Calls Tryz.prog 59 #[.agg #[.int .i64 a, .int .i64 b], .int .i64 d] w _
  generalize roundE (a, b) d = z at *
  generalize a / d = qa at *
  generalize b / d = qb at *
  generalize a % d = s at *
  generalize b % d = t at *
  have HNF := Lib.hid (fun i k hi hi2 hk hk2 => near_first (d := d) hs0 hs1 ht0 ht1 i k hi hi2 hk hk2)
  obtain ⟨ci1, ci2, ci3, ci4⟩ := corner_in s t d
  have q0 : decide (d < 1) = false := decide_eq_false (by omega)
  have q1 : decide (1125899906842624 < d) = false := decide_eq_false (by omega)
  have q2 : decide (a < -1152921504606846976) = false := decide_eq_false (by omega)
  have q3 : decide (1152921504606846976 < a) = false := decide_eq_false (by omega)
  have q4 : decide (b < -1152921504606846976) = false := decide_eq_false (by omega)
  have q5 : decide (1152921504606846976 < b) = false := decide_eq_false (by omega)
  go_enter Tryz.func59, Tryz.ntmps59
  go_wp2_with fail
  refine (F1.out _).mono ?_
  rintro e w1 ⟨rfl, hb1⟩
  have h2 : Two w1 w.heap.size (.int .i64 a) (.int .i64 b) := (Two.of_row (t := 70) (f := _) (by rw [Below.heap_alloc _ _ _ (by simp)]; exact heap_new _ _ _ rfl)).later (by simp; omega) hb1
  have H5 : Hid (Two2 w1 (w.heap.size + 1) (.int .i64 0) (.int .i64 0)) := (Two2.of_row (t := 70) (heap_new _ _ _ (by simp))).later (by simp) hb1
  have hz := hb1.size
  simp at hz
  have hq : Hid (Below w.heap.size w w1) := ((Below.refl _ _).alloc (Nat.le_refl _) _).alloc (by simp) _ |>.trans (hb1.mono (by simp; omega))
  obtain ⟨c0, c1⟩ := h2
  clear hb1
  go_wp2_with fail
  refine (F2.out _).mono ?_
  rintro e w2 ⟨rfl, hb2⟩
  have HT := Lib.hid (H5.out.later (by omega) hb2)
  have HB := Lib.hid (hq.out.trans (hb2.mono hq.out.size))
  have hsz : w.heap.size + 1 < w2.heap.size := by have := hb2.size; omega
  clear hq H5 c0 c1 hb2 F1 F2 q0 q1 q2 q3 q4 q5 hz
  obtain ⟨i0, hi0⟩ : ∃ x, (cornerE s t d).1 = x := ⟨_, rfl⟩
  obtain ⟨k0, hk0⟩ : ∃ x, (cornerE s t d).2 = x := ⟨_, rfl⟩
  have HCE : Hid (cornerE s t d = (i0, k0)) := Prod.ext hi0 hk0
  rw [hi0] at ci1 ci2
  rw [hk0] at ci3 ci4
  have HZ : Hid (z = (qa + i0, qb + k0)) := by show _ = _; rw [HR.out, hi0, hk0]
  have HNO : Hid (∀ i k : Int, -1 ≤ i → i ≤ 2 → -1 ≤ k → k ≤ 2 → (i < i0 ∨ (i = i0 ∧ k < k0)) → nearB (s - i * d) (t - k * d) d = false) := fun i k h1 h2 h3 h4 h5 => (HNF.out i k h1 h2 h3 h4).1 (by rw [hi0, hk0]; exact h5)
  have HYES : Hid (nearB (s - i0 * d) (t - k0 * d) d = true) := (HNF.out i0 k0 (by omega) (by omega) (by omega) (by omega)).2 HCE.out.symm
  clear HNF hi0 hk0 HR HCE
  go_wp2
  go_loopw [12] (fun iv wr => ∃ i : Int, iv = .int .i64 i ∧ -1 ≤ i ∧ i ≤ i0 ∧ wr = w2) (fun iv _ => (3 - intOf iv).toNat)
  case atStart => exact ⟨-1, rfl, by omega, by omega, rfl⟩
  case round =>
    obtain ⟨i, rfl, hi1, hi2, rfl⟩ := hrel
    have q6 : decide (i ≤ 2) = true := decide_eq_true (by omega)
    obtain ⟨P, hP⟩ : ∃ P, i * d = P := ⟨_, rfl⟩
    have hPb := times_small (i := i) (d := d) (by omega) hi1 (by omega)
    rw [hP] at hPb
    obtain ⟨hP1, hP2⟩ := hPb
    have HNO2 : Hid (∀ k : Int, -1 ≤ k → k ≤ 2 → (i < i0 ∨ (i = i0 ∧ k < k0)) → nearB (s - P) (t - k * d) d = false) := fun k h3 h4 h5 => by rw [← hP]; exact HNO.out i k hi1 (by omega) h3 h4 h5
    have HY2 : Hid (i = i0 → nearB (s - P) (t - k0 * d) d = true) := fun e => by rw [← hP, e]; exact HYES.out
    clear HNO HYES
    go_wp2
    go_loopw [13] (fun kv wx => ∃ k : Int, kv = .int .i64 k ∧ -1 ≤ k ∧ k ≤ 3 ∧ (i = i0 → k ≤ k0) ∧ wx = wr) (fun kv _ => (4 - intOf kv).toNat)
    case atStart => exact ⟨-1, rfl, by omega, by omega, by omega, rfl⟩
    case round =>
      obtain ⟨k, rfl, hk1, hk2, hk3, rfl⟩ := hrel
      by_cases hk : k ≤ 2
      · have q7 : decide (k ≤ 2) = true := decide_eq_true hk
        obtain ⟨Q, hQ⟩ : ∃ P, k * d = P := ⟨_, rfl⟩
        have hQb := times_small (i := k) (d := d) (by omega) hk1 hk
        rw [hQ] at hQb
        obtain ⟨hQ1, hQ2⟩ := hQb
        have HH := Lib.hid (holds_any (s - P) (t - Q) d (by omega) (by omega))
        by_cases hat : i = i0 ∧ k = k0
        · obtain ⟨rfl, rfl⟩ := hat
          have hy := HY2.out rfl
          rw [hQ] at hy
          rw [hy] at HH
          clear hy HNO2 HY2
          obtain ⟨⟨z0, z1⟩, z2, z3⟩ := HT.out
          go_wp2_with fail
          refine (HH.out _).mono ?_
          rintro e w5 ⟨rfl, rfl⟩
          go_wp2
          exact bodyPost_ret (v := .tuple #[.agg #[.int .i64 (qa + i), .int .i64 (qb + k)], .bool true]) (by simp [results, Tryz.results59, go_sem, *]) rfl ⟨by rw [HZ.out], (HB.out.setCell (p := ⟨w.heap.size + 1, 0, none⟩) (by simp) _).setCell (p := ⟨w.heap.size + 1, 1, none⟩) (by simp) _⟩
        · have hn := HNO2.out k hk1 hk (by omega)
          rw [hQ] at hn
          rw [hn] at HH
          have hk4 : i = i0 → k + 1 ≤ k0 := fun e => by have := hk3 e; omega
          clear hn hat HNO2 HY2 hk3
          go_wp2_with fail
          refine (HH.out _).mono ?_
          rintro e w5 ⟨rfl, rfl⟩
          go_wp2
          go_roundw
          case rel => exact ⟨k + 1, rfl, by omega, by omega, hk4, by first | rfl | trivial⟩
          case measure => simp [intOf]; omega
      · have q7 : decide (k ≤ 2) = false := decide_eq_false hk
        have hlt : i + 1 ≤ i0 := by
          rcases Int.lt_or_le i i0 with h | h
          · omega
          · have := hk3 (by omega); omega
        clear HNO2 HY2 hk3
        go_wp2
        go_roundw
        case rel => exact ⟨i + 1, rfl, by omega, hlt, by first | rfl | trivial⟩
        case measure => simp [intOf]; omega
end Go.Proofs.YtjimcjhgjfhbiaaGreat
/- Plain laws: which cells may be; words as numbers, and cells of words. -/
namespace Go.Proofs.YtjimcjhgjfhbiaaGreat.Wd

/-- So many parents up. -/
def upN : Nat → E2 → E2
  | 0, z => z
  | k + 1, z => upN k (upE z)
theorem upN_up (k : Nat) (z : E2) : upN (k + 1) z = upE (upN k z) := by
  induction k generalizing z with
  | zero => rfl
  | succ k ih => show upN (k + 1) (upE z) = _; rw [ih]; rfl
/-- Which cells may be. -/
def baseB (z : E2) : Bool := decide (-512 ≤ z.1) && decide (z.1 < 512) && (decide (-512 ≤ z.2) && decide (z.2 < 512))
def shapeB (r : Int) (z : E2) : Bool := decide (0 ≤ r) && decide (r ≤ 12) && (decide (-1073741824 ≤ z.1) && decide (z.1 ≤ 1073741824)) && (decide (-1073741824 ≤ z.2) && decide (z.2 ≤ 1073741824))
def okB (r : Int) (z : E2) : Bool := shapeB r z && baseB (upN r.toNat z)
theorem baseB_iff (z : E2) : baseB z = true ↔ -512 ≤ z.1 ∧ z.1 < 512 ∧ -512 ≤ z.2 ∧ z.2 < 512 := by
  unfold baseB; simp [and_assoc]
theorem shapeB_iff (r : Int) (z : E2) : shapeB r z = true ↔ 0 ≤ r ∧ r ≤ 12 ∧ -1073741824 ≤ z.1 ∧ z.1 ≤ 1073741824 ∧ -1073741824 ≤ z.2 ∧ z.2 ≤ 1073741824 := by
  unfold shapeB; simp [and_assoc]
theorem okB_iff (r : Int) (z : E2) : okB r z = true ↔ shapeB r z = true ∧ baseB (upN r.toNat z) = true := by
  unfold okB; simp
theorem okB_nat {r : Int} {z : E2} (h : okB r z = true) : ∃ k : Nat, r = k ∧ k ≤ 12 := by
  have := (shapeB_iff r z).1 ((okB_iff r z).1 h).1
  exact ⟨r.toNat, by omega, by omega⟩

/-- The number of the first digits. -/
def hd (f : Nat → Nat) : Nat → Nat
  | 0 => 0
  | k + 1 => hd f k * 8 + f (k + 1)
theorem hd_lt {f : Nat → Nat} (h : ∀ k, f k < 8) (n : Nat) : hd f n < 8 ^ n := by
  induction n with
  | zero => show 0 < 1; omega
  | succ n ih => show hd f n * 8 + f (n + 1) < 8 ^ (n + 1); rw [Nat.pow_succ]; have := h (n + 1); omega
theorem hd_div {f : Nat → Nat} (h : ∀ k, f k < 8) (k j : Nat) : hd f (k + j) / 8 ^ j = hd f k := by
  induction j with
  | zero => simp
  | succ j ih =>
    rw [Nat.pow_succ, Nat.mul_comm, ← Nat.div_div_eq_div_mul]
    show (hd f (k + j) * 8 + f (k + j + 1)) / 8 / 8 ^ j = _
    rw [show (hd f (k + j) * 8 + f (k + j + 1)) / 8 = hd f (k + j) by have := h (k + j + 1); omega]
    exact ih
theorem hd_dig {f : Nat → Nat} (h : ∀ k, f k < 8) {k : Nat} (hk : 0 < k) (j : Nat) : hd f (k + j) / 8 ^ j % 8 = f k := by
  rw [hd_div h]
  obtain ⟨i, rfl⟩ : ∃ i, k = i + 1 := ⟨k - 1, by omega⟩
  show (hd f i * 8 + f (i + 1)) % 8 = _
  have := h (i + 1)
  omega
theorem hd_congr {f g : Nat → Nat} {n : Nat} (h : ∀ k, 0 < k → k ≤ n → f k = g k) : hd f n = hd g n := by
  induction n with
  | zero => rfl
  | succ n ih =>
    show hd f n * 8 + f (n + 1) = hd g n * 8 + g (n + 1)
    rw [ih fun k h1 h2 => h k h1 (by omega), h (n + 1) (by omega) (Nat.le_refl _)]
/-- A word's digit. -/
def dgW (w k : Nat) : Nat := w / 8 ^ (12 - k) % 8
theorem dgW_lt (w k : Nat) : dgW w k < 8 := Nat.mod_lt _ (by decide)
/-- A cell's digit: 7 behind the last. -/
def dgt (r : Nat) (z : E2) (k : Nat) : Nat := if k ≤ r then digE (upN (r - k) z) else 7
theorem dgt_lt (r : Nat) (z : E2) (k : Nat) : dgt r z k < 8 := by
  unfold dgt
  split
  · have := digE_lt (upN (r - k) z); omega
  · decide
/-- A cell's word. -/
def topN (r : Nat) (b : E2) : Nat := 1152921504606846976 + r * 72057594037927936 + (b.1 + 512).toNat * 70368744177664 + (b.2 + 512).toNat * 68719476736
def wordN (r : Nat) (z : E2) : Nat := topN r (upN r z) + hd (dgt r z) 12
/-- The cells within, by digits. -/
def dn (f : Nat → Nat) (b : E2) : Nat → E2
  | 0 => b
  | k + 1 => downE (dn f b k) (f (k + 1))
def rW (w : Nat) : Nat := w / 72057594037927936 % 16
def bW (w : Nat) : E2 := (((w / 70368744177664 % 1024 : Nat) : Int) - 512, ((w / 68719476736 % 1024 : Nat) : Int) - 512)
def zW (w : Nat) : E2 := dn (dgW w) (bW w) (rW w)
/-- Whether the digits end where they should. -/
def okD (f : Nat → Nat) (r : Nat) : Nat → Bool
  | 0 => true
  | k + 1 => okD f r k && ((f (k + 1) == 7) == decide (r < k + 1))
theorem okD_iff (f : Nat → Nat) (r n : Nat) : okD f r n = true ↔ ∀ k, 0 < k → k ≤ n → (f k = 7 ↔ r < k) := by
  induction n with
  | zero => exact ⟨fun _ k h1 h2 => by omega, fun _ => rfl⟩
  | succ n ih =>
    show (okD f r n && ((f (n + 1) == 7) == decide (r < n + 1))) = true ↔ _
    rw [Bool.and_eq_true, ih]
    constructor
    · rintro ⟨h1, h2⟩ k hk hk2
      rcases Nat.lt_or_ge k (n + 1) with h | h
      · exact h1 k hk (by omega)
      · obtain rfl : k = n + 1 := by omega
        by_cases ha : f (n + 1) = 7 <;> by_cases hb : r < n + 1 <;> simp_all
    · intro h
      refine ⟨fun k hk hk2 => h k hk (by omega), ?_⟩
      have := h (n + 1) (by omega) (Nat.le_refl _)
      by_cases hb : r < n + 1
      · rw [this.2 hb, decide_eq_true hb]; rfl
      · rw [decide_eq_false hb, beq_eq_false_iff_ne.2 fun e => hb (this.1 e)]; rfl
theorem okD_stop {f : Nat → Nat} {r n k : Nat} (h : okD f r k = false) (hk : k ≤ n) : okD f r n = false := by
  obtain ⟨j, rfl⟩ : ∃ j, n = k + j := ⟨n - k, by omega⟩
  clear hk
  induction j with
  | zero => exact h
  | succ j ih => show (okD f r (k + j) && _) = false; rw [ih]; rfl
/-- Whether a number is a word. -/
def isW (w : Nat) : Bool := decide (w / 1152921504606846976 = 1) && decide (rW w ≤ 12) && okD (dgW w) (rW w) 12
theorem isW_iff (w : Nat) : isW w = true ↔ w / 1152921504606846976 = 1 ∧ rW w ≤ 12 ∧ ∀ k, 0 < k → k ≤ 12 → (dgW w k = 7 ↔ rW w < k) := by
  unfold isW; rw [Bool.and_eq_true, Bool.and_eq_true, okD_iff]; simp [and_assoc]

theorem dn_up {f : Nat → Nat} {b : E2} {r : Nat} (h : ∀ k, 0 < k → k ≤ r → f k < 7) {j : Nat} (hj : j ≤ r) : upN j (dn f b r) = dn f b (r - j) := by
  induction j with
  | zero => rfl
  | succ j ih =>
    rw [upN_up, ih (by omega)]
    obtain ⟨i, hi⟩ : ∃ i, r - j = i + 1 := ⟨r - j - 1, by omega⟩
    rw [hi, show r - (j + 1) = i by omega]
    exact upE_down _ (h (i + 1) (by omega) (by omega))
theorem dn_of_up (r : Nat) (z : E2) {k : Nat} (hk : k ≤ r) : dn (dgt r z) (upN r z) k = upN (r - k) z := by
  induction k with
  | zero => rfl
  | succ k ih =>
    show downE (dn (dgt r z) (upN r z) k) (dgt r z (k + 1)) = _
    rw [ih (by omega)]
    unfold dgt
    rw [if_pos hk, show r - k = (r - (k + 1)) + 1 by omega, upN_up]
    exact down_up _
/-- How far a cell may lie: along three ways. -/
def Hex (h : Int) (z : E2) : Prop := -h ≤ z.1 ∧ z.1 ≤ h ∧ -h ≤ z.2 ∧ z.2 ≤ h ∧ -h ≤ z.1 + z.2 ∧ z.1 + z.2 ≤ h
theorem hex_down {h : Int} {q : E2} (hq : Hex h q) {d : Nat} (hd : d < 7) : Hex (3 * h + 1) (downE q d) := by
  rw [downE_eq]
  unfold Hex at *
  rcases left_cases hd with ⟨_, e⟩ | ⟨_, e⟩ | ⟨_, e⟩ | ⟨_, e⟩ | ⟨_, e⟩ | ⟨_, e⟩ | ⟨_, e⟩ <;> rw [e] <;> simp only <;> omega
def hexH : Nat → Int
  | 0 => 1024
  | k + 1 => 3 * hexH k + 1
theorem dn_hex {f : Nat → Nat} {b : E2} (hb : baseB b = true) {r : Nat} (h : ∀ k, 0 < k → k ≤ r → f k < 7) {k : Nat} (hk : k ≤ r) : Hex (hexH k) (dn f b k) := by
  induction k with
  | zero =>
    have := (baseB_iff b).1 hb
    show Hex 1024 b
    unfold Hex
    omega
  | succ k ih => exact hex_down (ih (by omega)) (h (k + 1) (by omega) hk)
theorem hexH_le {k : Nat} (h : k ≤ 12) : hexH k ≤ 1073741824 := by
  rcases (show k = 0 ∨ k = 1 ∨ k = 2 ∨ k = 3 ∨ k = 4 ∨ k = 5 ∨ k = 6 ∨ k = 7 ∨ k = 8 ∨ k = 9 ∨ k = 10 ∨ k = 11 ∨ k = 12 by omega) with rfl | rfl | rfl | rfl | rfl | rfl | rfl | rfl | rfl | rfl | rfl | rfl | rfl <;> decide
theorem Hex.mono {h h' : Int} {z : E2} (hz : Hex h z) (hh : h ≤ h') : Hex h' z := by unfold Hex at *; omega
/-- A cell made of digits may be. -/
theorem dn_ok {f : Nat → Nat} {b : E2} (hb : baseB b = true) {r : Nat} (hr : r ≤ 12) (h : ∀ k, 0 < k → k ≤ r → f k < 7) : okB r (dn f b r) = true := by
  rw [okB_iff, shapeB_iff]
  have h1 := (dn_hex hb h (Nat.le_refl r)).mono (hexH_le hr)
  unfold Hex at h1
  refine ⟨⟨by omega, by omega, by omega, by omega, by omega, by omega⟩, ?_⟩
  rw [show (r : Int).toNat = r from rfl, dn_up h (Nat.le_refl r), Nat.sub_self]
  exact hb
theorem topN_parts {r : Nat} {b : E2} (hr : r ≤ 12) (hb : baseB b = true) {t : Nat} (ht : t < 68719476736) :
    (topN r b + t) / 1152921504606846976 = 1 ∧ rW (topN r b + t) = r ∧ bW (topN r b + t) = b ∧ (topN r b + t) < 2305843009213693952 ∧ topN r b % 68719476736 = 0 := by
  obtain ⟨h1, h2, h3, h4⟩ := (baseB_iff b).1 hb
  unfold rW bW topN
  refine ⟨by omega, by omega, ?_, by omega, by omega⟩
  ext <;> simp only <;> omega
theorem hd12_lt {f : Nat → Nat} (h : ∀ k, f k < 8) : hd f 12 < 68719476736 := by
  have h1 := hd_lt h 12
  rw [show (8 : Nat) ^ 12 = 68719476736 by decide] at h1
  exact h1
theorem dgW_word {r : Nat} {z : E2} (hr : r ≤ 12) (hb : baseB (upN r z) = true) {k : Nat} (h0 : 0 < k) (hk : k ≤ 12) : dgW (wordN r z) k = dgt r z k := by
  have h5 := (topN_parts hr hb (t := 0) (by decide)).2.2.2.2
  unfold dgW wordN
  obtain ⟨j, hj⟩ : ∃ j, 12 = k + j := ⟨12 - k, by omega⟩
  have h1 := hd_dig (f := dgt r z) (dgt_lt r z) h0 j
  rw [← hj] at h1
  obtain ⟨c, hc⟩ : ∃ c, topN r (upN r z) = c * 68719476736 := ⟨topN r (upN r z) / 68719476736, by omega⟩
  rw [hc, show 12 - k = j by omega, show (68719476736 : Nat) = 8 ^ (k + j) by rw [← hj], Nat.pow_add, ← Nat.mul_assoc]
  rw [Nat.add_comm, Nat.add_mul_div_right _ _ (Nat.pow_pos (by decide))]
  obtain ⟨i, rfl⟩ : ∃ i, k = i + 1 := ⟨k - 1, by omega⟩
  rw [Nat.pow_succ, ← Nat.mul_assoc, Nat.add_mul_mod_self_right]
  exact h1
theorem wordN_parts {r : Nat} {z : E2} (hr : r ≤ 12) (hb : baseB (upN r z) = true) : wordN r z / 1152921504606846976 = 1 ∧ rW (wordN r z) = r ∧ bW (wordN r z) = upN r z := by
  obtain ⟨h1, h2, h3, _, _⟩ := topN_parts hr hb (hd12_lt (dgt_lt r z))
  unfold wordN
  exact ⟨h1, h2, h3⟩
theorem word_isW {r : Nat} {z : E2} (hr : r ≤ 12) (hb : baseB (upN r z) = true) : isW (wordN r z) = true := by
  obtain ⟨h1, h2, h3⟩ := wordN_parts hr hb
  rw [isW_iff, h2]
  refine ⟨h1, hr, fun k h0 hk => ?_⟩
  rw [dgW_word hr hb h0 hk]
  unfold dgt
  split
  · have := digE_lt (upN (r - k) z); omega
  · omega
theorem dn_congr {f g : Nat → Nat} {b : E2} {r : Nat} (h5 : ∀ k, 0 < k → k ≤ r → f k = g k) : ∀ k, k ≤ r → dn f b k = dn g b k := by
  intro k hk
  induction k with
  | zero => rfl
  | succ k ih =>
    show downE _ _ = downE _ _
    rw [ih (by omega), h5 (k + 1) (by omega) (by omega)]
theorem dn_back {r : Nat} {z : E2} {f : Nat → Nat} (h5 : ∀ k, 0 < k → k ≤ r → f k = dgt r z k) : dn f (upN r z) r = z := by
  rw [dn_congr h5 r (Nat.le_refl r), dn_of_up r z (Nat.le_refl r), Nat.sub_self]
  rfl
theorem zW_back {r : Nat} {z : E2} {w : Nat} (h2 : rW w = r) (h3 : bW w = upN r z) (h5 : ∀ k, 0 < k → k ≤ r → dgW w k = dgt r z k) : zW w = z := by
  unfold zW
  rw [h2, h3]
  exact dn_back h5
theorem word_zW {r : Nat} {z : E2} (hr : r ≤ 12) (hb : baseB (upN r z) = true) : zW (wordN r z) = z :=
  zW_back (wordN_parts hr hb).2.1 (wordN_parts hr hb).2.2 (fun _ h0 h1 => dgW_word hr hb h0 (Nat.le_trans h1 hr))
theorem okB_parts {r : Nat} {z : E2} (h : okB r z = true) : r ≤ 12 ∧ baseB (upN r z) = true := by
  obtain ⟨hs, hb⟩ := (okB_iff _ _).1 h
  have hr := (shapeB_iff _ _).1 hs
  exact ⟨by omega, hb⟩
/-- A cell that may be, from its word. -/
theorem word_cell {r : Nat} {z : E2} (h : okB r z = true) : isW (wordN r z) = true ∧ rW (wordN r z) = r ∧ zW (wordN r z) = z := by
  obtain ⟨hr, hb⟩ := okB_parts h
  exact ⟨word_isW hr hb, (wordN_parts hr hb).2.1, word_zW hr hb⟩
theorem wordN_lt {r : Nat} {z : E2} (h : okB r z = true) : wordN r z < 2305843009213693952 ∧ 1152921504606846976 ≤ wordN r z := by
  obtain ⟨hs, hb⟩ := (okB_iff _ _).1 h
  have hr := (shapeB_iff _ _).1 hs
  obtain ⟨_, _, _, h4, _⟩ := topN_parts (r := r) (by omega) hb (hd12_lt (dgt_lt r z))
  exact ⟨h4, by unfold wordN topN; omega⟩
end Go.Proofs.YtjimcjhgjfhbiaaGreat.Wd
/- Plain laws: the cell of a point may be, and all within twelve steps of it. -/
namespace Go.Proofs.YtjimcjhgjfhbiaaGreat.Wd

def bE : Nat → E2
  | 0 => (1, 0)
  | k + 1 => mulE (bE k) (2, 1)
def conjE (z : E2) : E2 := (z.1 + z.2, -z.2)
theorem bE_tab : bE 0 = (1, 0) ∧ bE 1 = (2, 1) ∧ bE 2 = (3, 5) ∧ bE 3 = (1, 18) ∧ bE 4 = (-16, 55) ∧ bE 5 = (-87, 149) ∧ bE 6 = (-323, 360) ∧ bE 7 = (-1006, 757) ∧ bE 8 = (-2769, 1265) ∧ bE 9 = (-6803, 1026) ∧ bE 10 = (-14632, -3725) ∧ bE 11 = (-25539, -25807) ∧ bE 12 = (-25271, -102960) := by decide
theorem upto12 {m : Nat} (h : m ≤ 12) : m = 0 ∨ m = 1 ∨ m = 2 ∨ m = 3 ∨ m = 4 ∨ m = 5 ∨ m = 6 ∨ m = 7 ∨ m = 8 ∨ m = 9 ∨ m = 10 ∨ m = 11 ∨ m = 12 := by omega
def hN : Nat → Int
  | 0 => 1 | 1 => 3 | 2 => 8 | 3 => 19 | 4 => 55 | 5 => 149 | 6 => 360 | 7 => 1006 | 8 => 2769 | 9 => 6803 | 10 => 18357 | 11 => 51346 | _ => 128231
def rN : Nat → Int
  | 0 => 1560 | 1 => 3900 | 2 => 10140 | 3 => 28860 | 4 => 73320 | 5 => 184080 | 6 => 532740 | 7 => 1375140 | 8 => 3332940 | 9 => 9812400 | 10 => 25731420 | 11 => 60179340 | _ => 180328980
/-- A point, and how far a number of the lattice is from it. -/
def ptE (x y : Int) : E2 := (45 * x - 26 * y, 52 * y)
def errE (m : Nat) (z u : E2) : E2 := (2340 * (mulE (bE m) z).1 - u.1, 2340 * (mulE (bE m) z).2 - u.2)
def dN (m : Nat) : Int := 2340 * 7 ^ m
/-- The number of the cell of a point. -/
def nearE (x y : Int) (r : Nat) : E2 := roundE (mulE (ptE x y) (conjE (bE (12 - r)))) (dN (12 - r))
theorem round_rest {v : E2} {d : Int} (hd : 0 < d) : ∃ s t : Int, v.1 = d * (roundE v d).1 + s ∧ v.2 = d * (roundE v d).2 + t ∧ -d ≤ 2 * s + t ∧ 2 * s + t ≤ d ∧ -d ≤ s + 2 * t ∧ s + 2 * t ≤ d ∧ -d ≤ s - t ∧ s - t ≤ d := by
  have h1 := Int.mul_ediv_add_emod v.1 d
  have h2 := Int.mul_ediv_add_emod v.2 d
  have a1 := Int.emod_nonneg v.1 (show d ≠ 0 by omega)
  have a2 := Int.emod_lt_of_pos v.1 hd
  have b1 := Int.emod_nonneg v.2 (show d ≠ 0 by omega)
  have b2 := Int.emod_lt_of_pos v.2 hd
  have hc : ((cornerE (v.1 % d) (v.2 % d) d).1 = 0 ∨ (cornerE (v.1 % d) (v.2 % d) d).1 = 1) ∧ ((cornerE (v.1 % d) (v.2 % d) d).2 = 0 ∨ (cornerE (v.1 % d) (v.2 % d) d).2 = 1) := by
    unfold cornerE
    (repeat' split) <;> simp
  have hn := (near_first a1 a2 b1 b2 (cornerE (v.1 % d) (v.2 % d) d).1 (cornerE (v.1 % d) (v.2 % d) d).2 (by omega) (by omega) (by omega) (by omega)).2 rfl
  unfold roundE addE
  simp only
  generalize hk : cornerE (v.1 % d) (v.2 % d) d = c at *
  clear hk
  obtain ⟨i, k⟩ := c
  simp only at hc hn ⊢
  refine ⟨v.1 % d - i * d, v.2 % d - k * d, ?_, ?_, ?_⟩
  · rw [Int.mul_add, Int.mul_comm d i]; omega
  · rw [Int.mul_add, Int.mul_comm d k]; omega
  · unfold nearB at hn
    simp only [Bool.and_eq_true, decide_eq_true_eq] at hn
    omega
theorem err_start {m : Nat} (hm : m ≤ 12) (u : E2) : Hex (rN m) (errE m (roundE (mulE u (conjE (bE m))) (dN m)) u) := by
  obtain ⟨q0, q1, q2, q3, q4, q5, q6, q7, q8, q9, q10, q11, q12⟩ := bE_tab
  obtain ⟨s, t, h1, h2, h3⟩ := round_rest (v := mulE u (conjE (bE m))) (d := dN m) (by rcases upto12 hm with rfl | rfl | rfl | rfl | rfl | rfl | rfl | rfl | rfl | rfl | rfl | rfl | rfl <;> decide)
  generalize roundE (mulE u (conjE (bE m))) (dN m) = z at *
  obtain ⟨u1, u2⟩ := u
  obtain ⟨z1, z2⟩ := z
  rcases upto12 hm with rfl | rfl | rfl | rfl | rfl | rfl | rfl | rfl | rfl | rfl | rfl | rfl | rfl <;> simp only [Hex, errE, mulE, conjE, q0, q1, q2, q3, q4, q5, q6, q7, q8, q9, q10, q11, q12, rN] at h1 h2 ⊢ <;> simp only [dN, Int.reducePow, Int.reduceMul] at h1 h2 h3 <;> omega
theorem err_up {m : Nat} (hm : m < 12) {T : Int} {u z : E2} (h : Hex T (errE m z u)) : Hex (T + 2340 * hN m) (errE (m + 1) (upE z) u) := by
  obtain ⟨q0, q1, q2, q3, q4, q5, q6, q7, q8, q9, q10, q11, q12⟩ := bE_tab
  have hz := down_up z
  have hl := left_cases (digE_lt z)
  generalize upE z = q at *
  generalize digE z = d at *
  rw [downE_eq] at hz
  subst hz
  obtain ⟨u1, u2⟩ := u
  obtain ⟨z1, z2⟩ := q
  generalize leftE d = l at *
  obtain ⟨l1, l2⟩ := l
  simp only [Prod.mk.injEq] at hl
  have hl2 : -1 ≤ l1 ∧ l1 ≤ 1 ∧ -1 ≤ l2 ∧ l2 ≤ 1 ∧ -1 ≤ l1 + l2 ∧ l1 + l2 ≤ 1 := by omega
  clear hl
  rcases (show m = 0 ∨ m = 1 ∨ m = 2 ∨ m = 3 ∨ m = 4 ∨ m = 5 ∨ m = 6 ∨ m = 7 ∨ m = 8 ∨ m = 9 ∨ m = 10 ∨ m = 11 by omega) with rfl | rfl | rfl | rfl | rfl | rfl | rfl | rfl | rfl | rfl | rfl | rfl <;> simp only [Hex, errE, mulE, q0, q1, q2, q3, q4, q5, q6, q7, q8, q9, q10, q11, q12, hN, Nat.reduceAdd] at h ⊢ <;> omega
theorem err_by {m : Nat} (hm : m ≤ 12) {T h : Int} {u z e : E2} (hz : Hex T (errE m z u)) (he : Hex h e) : Hex (T + 2340 * (hN m * h)) (errE m (addE z e) u) := by
  obtain ⟨q0, q1, q2, q3, q4, q5, q6, q7, q8, q9, q10, q11, q12⟩ := bE_tab
  obtain ⟨u1, u2⟩ := u
  obtain ⟨z1, z2⟩ := z
  obtain ⟨e1, e2⟩ := e
  rcases upto12 hm with rfl | rfl | rfl | rfl | rfl | rfl | rfl | rfl | rfl | rfl | rfl | rfl | rfl <;> simp only [Hex, errE, mulE, addE, q0, q1, q2, q3, q4, q5, q6, q7, q8, q9, q10, q11, q12, hN] at hz he ⊢ <;> omega
def tN (m : Nat) : Nat → Int
  | 0 => rN m + 2340 * (hN m * 12)
  | k + 1 => tN m k + 2340 * hN (m + k)
theorem err_ups {m : Nat} {u z : E2} (h : Hex (tN m 0) (errE m z u)) {k : Nat} (hk : m + k ≤ 12) : Hex (tN m k) (errE (m + k) (upN k z) u) := by
  induction k with
  | zero => exact h
  | succ k ih => rw [upN_up]; exact err_up (by omega) (ih (by omega))
theorem base_in {b : E2} {x y : Int} (hx : 0 ≤ x ∧ x < 1073741824) (hy : 0 ≤ y ∧ y < 1073741824) (h : Hex 4000000000 (errE 12 b (ptE x y))) : baseB b = true := by
  obtain ⟨_, _, _, _, _, _, _, _, _, _, _, _, q12⟩ := bE_tab
  rw [baseB_iff]
  obtain ⟨b1, b2⟩ := b
  simp only [Hex, errE, mulE, ptE, q12] at h ⊢
  omega
theorem ok_of_base {r : Nat} {z : E2} (hr : r ≤ 12) (h : baseB (upN r z) = true) : okB r z = true := by
  have h1 := dn_of_up r z (Nat.le_refl r)
  rw [Nat.sub_self] at h1
  have h2 := dn_ok h hr (f := dgt r z) fun k _ hk => by unfold dgt; rw [if_pos hk]; exact digE_lt _
  rw [h1] at h2
  exact h2
theorem near_ok {x y : Int} (hx : 0 ≤ x ∧ x < 1073741824) (hy : 0 ≤ y ∧ y < 1073741824) {r : Nat} (hr : r ≤ 12) {e : E2} (he : Hex 12 e) : okB r (addE (nearE x y r) e) = true := by
  refine ok_of_base hr ?_
  have h1 := err_by (m := 12 - r) (by omega) (err_start (by omega) (ptE x y)) he
  have h2 := err_ups (m := 12 - r) h1 (k := r) (by omega)
  rw [show 12 - r + r = 12 by omega] at h2
  refine base_in hx hy (h2.mono ?_)
  rcases upto12 hr with rfl | rfl | rfl | rfl | rfl | rfl | rfl | rfl | rfl | rfl | rfl | rfl | rfl <;> decide
theorem near_ok0 {x y : Int} (hx : 0 ≤ x ∧ x < 1073741824) (hy : 0 ≤ y ∧ y < 1073741824) {r : Nat} (hr : r ≤ 12) : okB r (nearE x y r) = true := by
  have := near_ok hx hy hr (e := (0, 0)) (by unfold Hex; simp)
  unfold addE at this
  simpa using this
end Go.Proofs.YtjimcjhgjfhbiaaGreat.Wd
