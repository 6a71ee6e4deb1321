/- Joined: NcPn, CvI, NcAn, NcBn: contracts and plain laws, each with its own heading below. -/
import Derived.Test.YtdbfimdcaacjhaaGreatPackAI
import Derived.Test.YtdbfimdcaacjhaaGreatPackAH
import Derived.Test.YtdbfimdcaacjhaaGreatPackAK
import Derived.Test.YtdbfimdcaacjhaaGreatPackAE
/- Plain laws: a word's parent, its size; the first fault of a list; groups by parents; the words of children. -/
namespace Go.Proofs.YtdbfimdcaacjhaaGreat
open Go.RowKit Go.Lib Wd

/-- A word's parent, and the error; a word's size. -/
def parW (w : Nat) : Nat := if isW w = true ∧ rW w ≠ 0 then ofW ((rW w : Int) - 1) (upE (zW w)) else 0
def parE (w : Nat) : Int := if isW w = true then (if rW w = 0 then 3 else 0) else 5
def resW (w : Nat) : Int := if isW w = true then (rW w : Int) else -1
/-- The first fault of a list. -/
def chkF (r : Int) : List Int → Int
  | [] => 0
  | w :: l => if isW w.toNat = true then (if (rW w.toNat : Int) = r then chkF r l else 8) else 5
/-- Words by their parents: one step, all. -/
structure Gs where
  out : List (List Int)
  last : Int
  has : Bool
def gStep (s : Gs) (w : Int) : Gs :=
  if parE w.toNat = 5 then s
  else if parE w.toNat = 0 ∧ s.has = true ∧ (parW w.toNat : Int) = s.last then ⟨s.out.dropLast ++ [(s.out.getLast?.getD []) ++ [w]], s.last, s.has⟩
  else ⟨s.out ++ [[w]], parW w.toNat, decide (parE w.toNat = 0)⟩
def gAll (l : List Int) : Gs := l.foldl gStep ⟨[], 0, false⟩
def grpF (l : List Int) : List (List Int) := (gAll (setF l)).out
theorem gAll_snoc (l : List Int) (w : Int) : gAll (l ++ [w]) = gStep (gAll l) w := by unfold gAll; rw [List.foldl_append]; rfl
theorem snoc_ind {α : Type} {P : List α → Prop} (h0 : P []) (h1 : ∀ l a, P l → P (l ++ [a])) : ∀ l, P l := by
  intro l
  have : ∀ r : List α, P r.reverse := by
    intro r
    induction r with
    | nil => exact h0
    | cons a r ih => rw [List.reverse_cons]; exact h1 _ _ ih
  have := this l.reverse
  rwa [List.reverse_reverse] at this
/-- Whatever has a parent told stands in a group. -/
theorem gAll_has (l : List Int) : (gAll l).has = true → (gAll l).out ≠ [] := by
  induction l using snoc_ind with
  | h0 => intro h; cases h
  | h1 l w ih =>
    rw [gAll_snoc]
    unfold gStep
    split
    · exact ih
    · split <;> (intro _; simp)
theorem up_ok {r : Nat} {z : E2} (h : okB (r + 1 : Nat) z = true) : okB r (upE z) = true := by
  obtain ⟨h1, h2⟩ := okB_parts h
  refine ok_of_base (by omega) ?_
  exact h2
theorem parW_lt (w : Nat) : parW w < 18446744073709551616 := by
  unfold parW
  split
  · next h =>
    unfold ofW
    split
    · next h2 =>
      obtain ⟨k, hk, hk2⟩ := okB_nat h2
      rw [hk] at h2
      have := (wordN_lt h2).1
      rw [hk, Int.toNat_natCast]
      omega
    · omega
  · omega
end Go.Proofs.YtdbfimdcaacjhaaGreat
/- Plain laws: how many cells a point has; a cell's parent near it; boxes in parts. -/
namespace Go.Proofs.YtdbfimdcaacjhaaGreat
open Go.RowKit Go.Lib Wd Cv

/-- Of three neighbours of one, two are no neighbours. -/
def isUnit (u : E2) : Bool := (List.range 6).any fun k => decide (u = unitE k)
theorem isUnit_of {u : E2} (h : ∃ k, k < 6 ∧ u = unitE k) : isUnit u = true := by
  obtain ⟨k, hk, rfl⟩ := h
  unfold isUnit
  exact List.any_eq_true.2 ⟨k, List.mem_range.2 hk, by simp⟩
theorem three_all : ((List.range 6).all fun a => (List.range 6).all fun b => (List.range 6).all fun c => !(isUnit (subE (unitE b) (unitE a)) && isUnit (subE (unitE c) (unitE a)) && isUnit (subE (unitE c) (unitE b)))) = true := by decide
theorem three_units (a : Nat) (ha : a < 6) (b : Nat) (hb : b < 6) (c : Nat) (hc : c < 6) (h1 : ∃ k, k < 6 ∧ subE (unitE b) (unitE a) = unitE k) (h2 : ∃ k, k < 6 ∧ subE (unitE c) (unitE a) = unitE k) (h3 : ∃ k, k < 6 ∧ subE (unitE c) (unitE b) = unitE k) : False := by
  have h := three_all
  simp only [List.all_eq_true, List.mem_range] at h
  have := h a ha b hb c hc
  rw [isUnit_of h1, isUnit_of h2, isUnit_of h3] at this
  simp at this
theorem next_sub {m : Nat} (hm : m ≤ 12) {z z' : E2} {X Y : Int} (h : InZ m z X Y) (h' : InZ m z' X Y) (hne : z' ≠ z) : ∃ k, k < 6 ∧ subE z' z = unitE k := by
  rcases tie_next hm h h' with e | ⟨k, hk, rfl⟩
  · exact absurd e hne
  · exact ⟨k, hk, by unfold subE addE; ext <;> simp only <;> omega⟩
/-- No point is in four cells. -/
theorem no_four {m : Nat} (hm : m ≤ 12) {z a b c : E2} {X Y : Int} (hz : InZ m z X Y) (ha : InZ m a X Y) (hb : InZ m b X Y) (hc : InZ m c X Y) (n1 : a ≠ z) (n2 : b ≠ z) (n3 : c ≠ z) (n4 : b ≠ a) (n5 : c ≠ a) (n6 : c ≠ b) : False := by
  obtain ⟨i, hi, ei⟩ := next_sub hm hz ha n1
  obtain ⟨j, hj, ej⟩ := next_sub hm hz hb n2
  obtain ⟨k, hk, ek⟩ := next_sub hm hz hc n3
  have key : ∀ {p q : E2} {s t : Nat}, subE p z = unitE s → subE q z = unitE t → subE q p = subE (unitE t) (unitE s) := fun {p q s t} h1 h2 => by
    rw [← h1, ← h2]; unfold subE; ext <;> simp only <;> omega
  have h1 := next_sub hm ha hb n4
  have h2 := next_sub hm ha hc n5
  have h3 := next_sub hm hb hc n6
  rw [key ei ej] at h1
  rw [key ei ek] at h2
  rw [key ej ek] at h3
  exact three_units i hi j hj k hk h1 h2 h3
theorem point_few {R : Nat} (hR : R ≤ 12) {p : E2} {L : List Int} (h : IsBox R p p L) : L.length ≤ 3 := by
  obtain ⟨h1, h2, -⟩ := h
  match L, h1, h2 with
  | [], _, _ => simp
  | [_], _, _ => simp
  | [_, _], _, _ => simp
  | [_, _, _], _, _ => simp
  | x0 :: x1 :: x2 :: x3 :: L, h1, h2 =>
    exfalso
    obtain ⟨z0, _, t0, rfl⟩ := (h2 x0).1 (by simp)
    obtain ⟨z1, _, t1, rfl⟩ := (h2 x1).1 (by simp)
    obtain ⟨z2, _, t2, rfl⟩ := (h2 x2).1 (by simp)
    obtain ⟨z3, _, t3, rfl⟩ := (h2 x3).1 (by simp)
    unfold Up at h1
    simp only [List.pairwise_cons, List.mem_cons, forall_eq_or_imp] at h1
    obtain ⟨⟨l1, l2, l3, _⟩, ⟨l4, l5, _⟩, ⟨l6, _⟩, _⟩ := h1
    have m12 : 12 - R ≤ 12 := by omega
    refine no_four m12 (touch_point m12 t0) (touch_point m12 t1) (touch_point m12 t2) (touch_point m12 t3) ?_ ?_ ?_ ?_ ?_ ?_ <;> rintro rfl <;> omega
theorem point_some {R : Nat} (hR : R ≤ 12) {x y : Int} (hx : 0 ≤ x ∧ x < 1073741824) (hy : 0 ≤ y ∧ y < 1073741824) {L : List Int} (h : IsBox R (x, y) (x, y) L) : ((wordN R (nearE x y R) : Nat) : Int) ∈ L :=
  (h.2.1 _).2 ⟨_, near_ok0 hx hy hR, touch_at (by omega) ⟨Int.le_refl _, Int.le_refl _⟩ ⟨Int.le_refl _, Int.le_refl _⟩ (inZ_near hR), rfl⟩
/-- A point and its cell's centre. -/
theorem near_cen {R : Nat} (hR : R ≤ 12) (x y : Int) : (3 * x - ddN (12 - R) ≤ (cenE (12 - R) (nearE x y R)).1 ∧ (cenE (12 - R) (nearE x y R)).1 ≤ 3 * x + ddN (12 - R)) ∧ 3 * y - ddN (12 - R) ≤ (cenE (12 - R) (nearE x y R)).2 ∧ (cenE (12 - R) (nearE x y R)).2 ≤ 3 * y + ddN (12 - R) := by
  have h := touch_at (lo := (x, y)) (hi := (x, y)) (m := 12 - R) (by omega) ⟨Int.le_refl _, Int.le_refl _⟩ ⟨Int.le_refl _, Int.le_refl _⟩ (inZ_near (x := x) (y := y) hR)
  exact touch_near (by omega) h
/-- A cell's parent's centre is within two sizes of whatever point the cell is the cell of. -/
theorem parent_near {R : Nat} (hR : R + 1 ≤ 12) (x y : Int) : inB (x - 2 * sizeN (12 - (R + 1)), y - 2 * sizeN (12 - (R + 1))) (x + 2 * sizeN (12 - (R + 1)), y + 2 * sizeN (12 - (R + 1))) (atE (12 - R) (upE (nearE x y (R + 1)))) = true := by
  have h := near_cen hR x y
  obtain ⟨m, hm⟩ : ∃ m, 12 - (R + 1) = m := ⟨_, rfl⟩
  rw [show 12 - R = m + 1 by omega]
  rw [hm] at h ⊢
  have hm11 : m ≤ 11 := by omega
  generalize nearE x y (R + 1) = z at h ⊢
  clear hR hm
  have hz := down_up z
  have hl := left_cases (digE_lt z)
  generalize upE z = q at *
  generalize digE z = d at *
  rw [downE_eq] at hz
  subst hz
  obtain ⟨q1, q2⟩ := q
  generalize leftE d = l at *
  obtain ⟨l1, l2⟩ := l
  simp only [Prod.mk.injEq] at hl
  have hl2 : -1 ≤ l1 ∧ l1 ≤ 1 ∧ -1 ≤ l2 ∧ l2 ≤ 1 ∧ -1 ≤ l1 + l2 ∧ l1 + l2 ≤ 1 := by omega
  clear hl
  obtain ⟨q0', q1', q2', q3', q4', q5', q6', q7', q8', q9', q10', q11', q12'⟩ := bE_tab
  obtain ⟨s0, s1, s2, s3, s4, s5, s6, s7, s8, s9, s10, s11, s12⟩ := size_tab
  rw [inB_iff]
  rw [(cen_parts m _).1, (cen_parts m _).2] at h
  rcases (show m = 0 ∨ m = 1 ∨ m = 2 ∨ m = 3 ∨ m = 4 ∨ m = 5 ∨ m = 6 ∨ m = 7 ∨ m = 8 ∨ m = 9 ∨ m = 10 ∨ m = 11 by omega) with rfl | rfl | rfl | rfl | rfl | rfl | rfl | rfl | rfl | rfl | rfl | rfl <;>
    simp only [mulE, atE, spotE, Nat.reduceAdd, q0', q1', q2', q3', q4', q5', q6', q7', q8', q9', q10', q11', q12', ddN, s0, s1, s2, s3, s4, s5, s6, s7, s8, s9, s10, s11] at h ⊢ <;> clear q0' q1' q2' q3' q4' q5' q6' q7' q8' q9' q10' q11' q12' s0 s1 s2 s3 s4 s5 s6 s7 s8 s9 s10 s11 s12 <;> omega

/-- A box cut along the first axis at a line both parts have. -/
theorem touch_split {m : Nat} (hm : m ≤ 12) {z lo hi : E2} {c : Int} (h1 : lo.1 ≤ c) (h2 : c ≤ hi.1) (hy : lo.2 ≤ hi.2) :
    TouchP (hexC m z) (triE lo) (triE hi) ↔ TouchP (hexC m z) (triE lo) (triE (c, hi.2)) ∨ TouchP (hexC m z) (triE (c, lo.2)) (triE hi) := by
  rw [touch_iff hm z (triE lo) (triE hi) (by simp only [triE]; omega) (by simp only [triE]; omega), touch_iff hm z (triE lo) (triE (c, hi.2)) (by simp only [triE]; omega) (by simp only [triE]; omega), touch_iff hm z (triE (c, lo.2)) (triE hi) (by simp only [triE]; omega) (by simp only [triE]; omega)]
  have c1 : ((triE lo).1 : Rat) ≤ ((3 * c : Int) : Rat) := by rw [Rat.intCast_le_intCast]; simp only [triE]; omega
  have c2 : ((3 * c : Int) : Rat) ≤ ((triE hi).1 : Rat) := by rw [Rat.intCast_le_intCast]; simp only [triE]; omega
  constructor
  · rintro ⟨X, Y, x1, x2, y1, y2, h⟩
    rcases Rat.le_total (a := X) (b := ((3 * c : Int) : Rat)) with hc | hc
    · exact .inl ⟨X, Y, x1, hc, y1, y2, h⟩
    · exact .inr ⟨X, Y, hc, x2, y1, y2, h⟩
  · rintro (⟨X, Y, x1, x2, y1, y2, h⟩ | ⟨X, Y, x1, x2, y1, y2, h⟩)
    · exact ⟨X, Y, x1, Rat.le_trans x2 c2, y1, y2, h⟩
    · exact ⟨X, Y, Rat.le_trans c1 x1, x2, y1, y2, h⟩
theorem isBox_parts {R : Nat} (_hR : R ≤ 12) {lo hi : E2} {c : Int} (h1 : lo.1 ≤ c) (h2 : c ≤ hi.1) (hy : lo.2 ≤ hi.2) {L A B : List Int} (hL : IsBox R lo hi L) (hA : IsBox R lo (c, hi.2) A) (hB : IsBox R (c, lo.2) hi B) : setF (A ++ B) = L := by
  refine (setF_up _).ext hL.1 fun x => ?_
  rw [setF_mem, List.mem_append, hA.2.1, hB.2.1, hL.2.1]
  unfold TouchW
  constructor
  · rintro (⟨z, z1, z2, z3⟩ | ⟨z, z1, z2, z3⟩)
    · exact ⟨z, z1, (touch_split (by omega) h1 h2 hy).2 (.inl z2), z3⟩
    · exact ⟨z, z1, (touch_split (by omega) h1 h2 hy).2 (.inr z2), z3⟩
  · rintro ⟨z, z1, z2, z3⟩
    rcases (touch_split (by omega) h1 h2 hy).1 z2 with h | h
    · exact .inl ⟨z, z1, h, z3⟩
    · exact .inr ⟨z, z1, h, z3⟩
theorem inB_parts {lo hi p : E2} {c : Int} (h1 : lo.1 ≤ c) (h2 : c < hi.1) : inB lo hi p = true ↔ inB lo (c, hi.2) p = true ∨ inB (c + 1, lo.2) hi p = true := by
  rw [inB_iff, inB_iff, inB_iff]; simp only; omega
theorem up_disjoint : ∀ {A B : List Int}, Up A → Up B → (∀ x, x ∈ A → x ∈ B → False) → (setF (A ++ B)).length = A.length + B.length := fun {A B} hA hB hd => by
  have hn : (A ++ B).Nodup := by
    rw [List.nodup_append]
    refine ⟨?_, ?_, fun x hx y hy e => hd x hx (e ▸ hy)⟩
    · rw [List.nodup_iff_pairwise_ne]; exact hA.imp fun h => by omega
    · rw [List.nodup_iff_pairwise_ne]; exact hB.imp fun h => by omega
  have h1 := up_of_srt hn
  have h2 : setF (A ++ B) = srt (A ++ B) := (setF_up _).ext h1 fun x => by rw [setF_mem, srt_mem]
  rw [h2, srt_length, List.length_append]
theorem isCen_parts {R : Nat} {lo hi : E2} {c : Int} (h1 : lo.1 ≤ c) (h2 : c < hi.1) {L A B : List Int} (hL : IsCen R lo hi L) (hA : IsCen R lo (c, hi.2) A) (hB : IsCen R (c + 1, lo.2) hi B) : setF (A ++ B) = L ∧ A.length + B.length = L.length := by
  have e : setF (A ++ B) = L := by
    refine (setF_up _).ext hL.1 fun x => ?_
    rw [setF_mem, List.mem_append, hA.2.1, hB.2.1, hL.2.1]
    unfold CenW
    constructor
    · rintro (⟨z, z1, z2, z3⟩ | ⟨z, z1, z2, z3⟩)
      · exact ⟨z, z1, (inB_parts h1 h2).2 (.inl z2), z3⟩
      · exact ⟨z, z1, (inB_parts h1 h2).2 (.inr z2), z3⟩
    · rintro ⟨z, z1, z2, z3⟩
      rcases (inB_parts h1 h2).1 z2 with h | h
      · exact .inl ⟨z, z1, h, z3⟩
      · exact .inr ⟨z, z1, h, z3⟩
  refine ⟨e, ?_⟩
  rw [← e, up_disjoint hA.1 hB.1]
  intro x ha hb
  obtain ⟨z, z1, z2, rfl⟩ := (hA.2.1 x).1 ha
  obtain ⟨y, y1, y2, e2⟩ := (hB.2.1 _).1 hb
  have e3 : wordN R z = wordN R y := by omega
  obtain rfl := (word_inj z1 y1 e3).2
  have p1 := (inB_iff _ _ _).1 z2
  have p2 := (inB_iff _ _ _).1 y2
  simp only at p1 p2
  omega
end Go.Proofs.YtdbfimdcaacjhaaGreat
/- Contracts of cell.step, cell.Parent, ident.Parent, ident.Res. -/
namespace Go.Proofs.YtdbfimdcaacjhaaGreat
open Go.RowKit Go.Lib Wd

/-- Two new blocks: a cell that is handed in, a cell that is to be told. -/
theorem two_new (w : World) (r : Int) (z : E2) :
    Hid (Tri ((w.alloc (.cells #[.int .i64 r, .int .i64 z.1, .int .i64 z.2] 27)).alloc (.cells #[.int .i64 0, .int .i64 0, .int .i64 0] 27)) w.heap.size r z) ∧ Hid (Tri ((w.alloc (.cells #[.int .i64 r, .int .i64 z.1, .int .i64 z.2] 27)).alloc (.cells #[.int .i64 0, .int .i64 0, .int .i64 0] 27)) (w.heap.size + 1) 0 (0, 0)) ∧ Hid (Below w.heap.size w ((w.alloc (.cells #[.int .i64 r, .int .i64 z.1, .int .i64 z.2] 27)).alloc (.cells #[.int .i64 0, .int .i64 0, .int .i64 0] 27))) := by
  refine ⟨?_, heap_new _ _ _ (by simp), ((Below.refl _ _).alloc (Nat.le_refl _) _).alloc (by simp) _⟩
  show _ = _
  rw [Below.heap_alloc _ _ _ (by simp)]
  exact heap_new _ _ _ rfl
theorem below3 {B : Nat} {w w1 : World} (h : Below B w w1) {g : Nat} (hg : B ≤ g) (a b c : Value) : Below B w (((w1.setCell ⟨g, 0, none⟩ a).setCell ⟨g, 1, none⟩ b).setCell ⟨g, 2, none⟩ c) :=
  ((h.setCell (p := ⟨g, 0, none⟩) hg _).setCell (p := ⟨g, 1, none⟩) hg _).setCell (p := ⟨g, 2, none⟩) hg _
/-- A cell's parent, as told. -/
def cpE (r : Int) (z : E2) : Int := if okB r z = true then (if r = 0 then 3 else 0) else 2
/-- What a word's cell and its parent are. -/
theorem par_cases (w0 : Nat) : (cvE w0 = 5 ∧ parE w0 = 5 ∧ parW w0 = 0) ∨ (cvE w0 = 0 ∧ cpE (cvR w0) (cvZ w0) = 3 ∧ parE w0 = 3 ∧ parW w0 = 0) ∨ (cvE w0 = 0 ∧ cpE (cvR w0) (cvZ w0) = 0 ∧ parE w0 = 0 ∧ ofW (cvR w0 - 1) (upE (cvZ w0)) = parW w0 ∧ ofE (cvR w0 - 1) (upE (cvZ w0)) = 0) := by
  unfold cvE cvR cvZ parE parW cpE
  by_cases h : isW w0 = true
  · right
    have ho := (cell_word h).1
    have hr := ((isW_iff w0).1 h).2.1
    rw [if_pos h, if_pos h, if_pos h, if_pos h, if_pos ho]
    by_cases h0 : rW w0 = 0
    · left
      rw [if_pos (by omega), if_pos h0, if_neg (by omega)]
      exact ⟨rfl, rfl, rfl, rfl⟩
    · right
      rw [if_neg (by omega), if_neg h0, if_pos ⟨h, h0⟩]
      refine ⟨rfl, rfl, rfl, rfl, ?_⟩
      obtain ⟨k, hk⟩ : ∃ k, rW w0 = k + 1 := ⟨rW w0 - 1, by omega⟩
      rw [hk] at ho ⊢
      rw [show ((k + 1 : Nat) : Int) - 1 = (k : Int) by omega]
      exact (ofW_ok (up_ok ho)).2.1
  · left
    rw [if_neg h, if_neg h, if_neg (fun h2 => h h2.1)]
    exact ⟨rfl, rfl, rfl⟩
end Go.Proofs.YtdbfimdcaacjhaaGreat
/- Contracts of apiaryref1: Parent, WordUp. -/
namespace Go.Proofs.YtdbfimdcaacjhaaGreat
open Go.RowKit Go.Lib Wd

set_option maxRecDepth 100000 in
set_option maxHeartbeats 4000000 in
theorem rpar_any (r : Int) (z : E2) (w : World) : Calls Tryz.prog 12 #[vC r z] w fun e w' => e = .returned (.tuple #[vC (if cpE r z = 0 then r - 1 else 0) (if cpE r z = 0 then upE z else (0, 0)), .int .i64 (cpE r z)]) ∧ Below w.heap.size w w' := by
  have HOK := Lib.hid (rok_any r z)
  obtain ⟨T0, G0, B0⟩ := two_new w r z
  by_cases h : okB r z = true
  · obtain ⟨r0, r12, hsm⟩ := ok_parts h
    rw [h] at HOK
    by_cases hr : r = 0
    · have hE : cpE r z = 3 := by unfold cpE; rw [if_pos h, if_pos hr]
      rw [hE, if_neg (by decide), if_neg (by decide)]
      subst hr
      clear hE h hsm
      simp only [vC] at *
      go_enter Tryz.func12, Tryz.ntmps12
      go_upto_region 1 with (fail)
      generalize (w.alloc (.cells #[.int .i64 0, .int .i64 z.1, .int .i64 z.2] 27)).alloc (.cells #[.int .i64 0, .int .i64 0, .int .i64 0] 27) = w0 at *
      obtain ⟨t0, t1, t2, t3, t4, t5, t6⟩ := T0.out.cells
      go_wp2_with fail
      refine (HOK.out _).mono ?_
      rintro e w1 ⟨rfl, hb1⟩
      have B1 := Lib.hid (B0.out.trans (hb1.mono B0.out.size))
      have T1 := Lib.hid (T0.out.later hb1)
      have G1 := Lib.hid (G0.out.later hb1)
      clear hb1 t0 t1 t2 t3 t4 t5 t6 T0 G0 B0
      obtain ⟨t0, t1, t2, t3, t4, t5, t6⟩ := T1.out.cells
      obtain ⟨g0, g1, g2, g3, g4, g5, g6⟩ := G1.out.cells
      go_wp2
      exact bodyPost_ret (v := .tuple #[.agg #[.int .i64 0, .int .i64 0, .int .i64 0], .int .i64 3]) (by simp [results, Tryz.results12, go_sem, *]) rfl ⟨rfl, below3 B1.out (by omega) _ _ _⟩
    · have hE : cpE r z = 0 := by unfold cpE; rw [if_pos h, if_neg hr]
      rw [hE, if_pos rfl, if_pos rfl]
      have HST := Lib.hid (parent_in z (hsm.mono (by decide)))
      have q1 : (r == 0) = false := by simp [hr]
      have q2 : IntKind.i64.wrap (r - 1) = r - 1 := wrap_in (by omega) (by omega)
      generalize upE z = p at *
      generalize digE z = dg at *
      clear hE h hsm hr
      simp only [vC, vE] at *
      go_enter Tryz.func12, Tryz.ntmps12
      go_upto_region 1 with (fail)
      generalize (w.alloc (.cells #[.int .i64 r, .int .i64 z.1, .int .i64 z.2] 27)).alloc (.cells #[.int .i64 0, .int .i64 0, .int .i64 0] 27) = w0 at *
      obtain ⟨t0, t1, t2, t3, t4, t5, t6⟩ := T0.out.cells
      go_wp2_with fail
      refine (HOK.out _).mono ?_
      rintro e w1 ⟨rfl, hb1⟩
      have B1 := Lib.hid (B0.out.trans (hb1.mono B0.out.size))
      have T1 := Lib.hid (T0.out.later hb1)
      have G1 := Lib.hid (G0.out.later hb1)
      clear hb1 t0 t1 t2 t3 t4 t5 t6 T0 G0 B0
      obtain ⟨t0, t1, t2, t3, t4, t5, t6⟩ := T1.out.cells
      go_wp2_with fail
      refine (HST.out _).mono ?_
      rintro e w2 ⟨rfl, hb2⟩
      have hal : Below w2.heap.size w2 (w2.alloc (.cells #[.int .i64 p.1, .int .i64 p.2] 23)) := (Below.refl _ _).alloc (Nat.le_refl _) _
      have hb3 := hb2.trans (hal.mono hb2.size)
      have B2 := Lib.hid (B1.out.trans (hb3.mono B1.out.size))
      have P2 : Hid (Two (w2.alloc (.cells #[.int .i64 p.1, .int .i64 p.2] 23)) w2.heap.size (.int .i64 p.1) (.int .i64 p.2)) := Two.of_row (t := 23) (f := _) (heap_new _ _ _ rfl)
      have T2 := Lib.hid (T1.out.later hb3)
      have G2 := Lib.hid (G1.out.later hb3)
      clear hb2 hb3 hal t0 t1 t2 t3 t4 t5 t6 T1 G1 B1
      go_upto_region 6 with (fail)
      generalize w2.alloc (.cells #[.int .i64 p.1, .int .i64 p.2] 23) = w3 at *
      obtain ⟨p0, p1⟩ := P2.out
      obtain ⟨t0, t1, t2, t3, t4, t5, t6⟩ := T2.out.cells
      obtain ⟨g0, g1, g2, g3, g4, g5, g6⟩ := G2.out.cells
      go_wp2
      exact bodyPost_ret (v := .tuple #[.agg #[.int .i64 (r - 1), .int .i64 p.1, .int .i64 p.2], .int .i64 0]) (by simp [results, Tryz.results12, go_sem, *]) rfl ⟨rfl, below3 B2.out (by omega) _ _ _⟩
  · have hE : cpE r z = 2 := by unfold cpE; rw [if_neg h]
    rw [hE, if_neg (by decide), if_neg (by decide)]
    rw [Bool.eq_false_iff.2 h] at HOK
    clear hE h
    simp only [vC] at *
    go_enter Tryz.func12, Tryz.ntmps12
    go_upto_region 1 with (fail)
    generalize (w.alloc (.cells #[.int .i64 r, .int .i64 z.1, .int .i64 z.2] 27)).alloc (.cells #[.int .i64 0, .int .i64 0, .int .i64 0] 27) = w0 at *
    obtain ⟨t0, t1, t2, t3, t4, t5, t6⟩ := T0.out.cells
    go_wp2_with fail
    refine (HOK.out _).mono ?_
    rintro e w1 ⟨rfl, hb1⟩
    have B1 := Lib.hid (B0.out.trans (hb1.mono B0.out.size))
    have G1 := Lib.hid (G0.out.later hb1)
    clear hb1 t0 t1 t2 t3 t4 t5 t6 T0 G0 B0
    obtain ⟨g0, g1, g2, g3, g4, g5, g6⟩ := G1.out.cells
    go_wp2
    exact bodyPost_ret (v := .tuple #[.agg #[.int .i64 0, .int .i64 0, .int .i64 0], .int .i64 2]) (by simp [results, Tryz.results12, go_sem, *]) rfl ⟨rfl, below3 B1.out (by omega) _ _ _⟩
end Go.Proofs.YtdbfimdcaacjhaaGreat
