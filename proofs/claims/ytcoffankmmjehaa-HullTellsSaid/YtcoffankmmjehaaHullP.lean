/- Plain laws on hulls: sides, rings round about points, areas. -/
import Derived.Test.YtcoffankmmjehaaKit
namespace Go.Proofs.Ytcoffankmmjehaa
abbrev Pt := Int × Int
end Go.Proofs.Ytcoffankmmjehaa
namespace Go.Proofs.Ytcoffankmmjehaa.Hull
def cr (u v : Pt) : Int := u.1 * v.2 - u.2 * v.1
def sb (a b : Pt) : Pt := (a.1 - b.1, a.2 - b.2)
def turn (a b c : Pt) : Int := cr (sb b a) (sb c a)
def Ls (s : Int) (u : Pt) : Prop := 0 < s * u.1 ∨ (s * u.1 = 0 ∧ 0 < s * u.2)
def Sg (s : Int) : Prop := s = 1 ∨ s = -1
theorem ls_one {u : Pt} : Ls 1 u ↔ 0 < u.1 ∨ (u.1 = 0 ∧ 0 < u.2) := by unfold Ls; omega
theorem ls_neg {u : Pt} : Ls (-1) u ↔ Ls 1 (-u.1, -u.2) := by unfold Ls; simp only; omega
theorem cr_neg (u v : Pt) : cr (-u.1, -u.2) (-v.1, -v.2) = cr u v := by unfold cr; grind
theorem cr_swap (u v : Pt) : cr v u = - cr u v := by unfold cr; grind
theorem cr_id1 (u v x : Pt) : cr u x * v.1 = cr u v * x.1 + cr v x * u.1 := by unfold cr; grind
theorem cr_id2 (u v x : Pt) : cr u x * v.2 = cr u v * x.2 + cr v x * u.2 := by unfold cr; grind
theorem trans1 {u v x : Pt} (hu : Ls 1 u) (hv : Ls 1 v) (hx : Ls 1 x) (h1 : 0 ≤ cr u v) (h2 : 0 ≤ cr v x) : 0 ≤ cr u x := by
  rw [ls_one] at hu hv hx
  by_cases hv1 : 0 < v.1
  · have h := cr_id1 u v x
    have p1 : 0 ≤ cr u v * x.1 := Int.mul_nonneg h1 (by omega)
    have p2 : 0 ≤ cr v x * u.1 := Int.mul_nonneg h2 (by omega)
    rcases Int.lt_or_le (cr u x) 0 with h3 | h3
    · have := Int.mul_neg_of_neg_of_pos h3 hv1
      omega
    · exact h3
  · have h := cr_id2 u v x
    have e : v.1 = 0 := by omega
    have hv2 : 0 < v.2 := by omega
    have hx1 : x.1 = 0 := by
      rcases Int.lt_or_le 0 x.1 with h3 | h3
      · have := Int.mul_pos hv2 h3
        unfold cr at h2; rw [e] at h2; omega
      · omega
    have : 0 ≤ u.1 * x.2 := Int.mul_nonneg (by omega) (by omega)
    unfold cr
    rw [hx1]; omega
theorem trans1l {u v x : Pt} (hu : Ls 1 u) (hv : Ls 1 v) (hx : Ls 1 x) (h1 : 0 < cr u v) (h2 : 0 ≤ cr v x) : 0 < cr u x := by
  rcases Int.lt_or_le 0 (cr u x) with h | h
  · exact h
  · exfalso
    have h3 := trans1 hv hx hu h2 (by rw [cr_swap]; omega)
    rw [cr_swap] at h3; omega
theorem trans1r {u v x : Pt} (hu : Ls 1 u) (hv : Ls 1 v) (hx : Ls 1 x) (h1 : 0 ≤ cr u v) (h2 : 0 < cr v x) : 0 < cr u x := by
  rcases Int.lt_or_le 0 (cr u x) with h | h
  · exact h
  · exfalso
    have h3 := trans1 hx hu hv (by rw [cr_swap]; omega) h1
    rw [cr_swap] at h3; omega
theorem tr {s : Int} (hs : Sg s) {u v x : Pt} (hu : Ls s u) (hv : Ls s v) (hx : Ls s x) (h1 : 0 ≤ cr u v) (h2 : 0 ≤ cr v x) : 0 ≤ cr u x := by
  rcases hs with rfl | rfl
  · exact trans1 hu hv hx h1 h2
  · rw [ls_neg] at hu hv hx
    rw [← cr_neg] at h1 h2 ⊢
    exact trans1 hu hv hx h1 h2
theorem trl {s : Int} (hs : Sg s) {u v x : Pt} (hu : Ls s u) (hv : Ls s v) (hx : Ls s x) (h1 : 0 < cr u v) (h2 : 0 ≤ cr v x) : 0 < cr u x := by
  rcases hs with rfl | rfl
  · exact trans1l hu hv hx h1 h2
  · rw [ls_neg] at hu hv hx
    rw [← cr_neg] at h1 h2 ⊢
    exact trans1l hu hv hx h1 h2
theorem trr {s : Int} (hs : Sg s) {u v x : Pt} (hu : Ls s u) (hv : Ls s v) (hx : Ls s x) (h1 : 0 ≤ cr u v) (h2 : 0 < cr v x) : 0 < cr u x := by
  rcases hs with rfl | rfl
  · exact trans1r hu hv hx h1 h2
  · rw [ls_neg] at hu hv hx
    rw [← cr_neg] at h1 h2 ⊢
    exact trans1r hu hv hx h1 h2
/-- One point comes ahead of another one, seen from s. -/
def Lt (s : Int) (a b : Pt) : Prop := Ls s (sb b a)
theorem lt_irrefl' {s : Int} (a : Pt) : ¬ Lt s a a := by unfold Lt Ls sb; simp
theorem lt_trans' {s : Int} (hs : Sg s) {a b c : Pt} (h1 : Lt s a b) (h2 : Lt s b c) : Lt s a c := by
  unfold Lt Ls sb at *; rcases hs with rfl | rfl <;> simp only at * <;> omega
theorem lt_asymm' {s : Int} (hs : Sg s) {a b : Pt} (h1 : Lt s a b) (h2 : Lt s b a) : False := lt_irrefl' _ (lt_trans' hs h1 h2)
theorem lt_tri {s : Int} (hs : Sg s) (a b : Pt) : Lt s a b ∨ a = b ∨ Lt s b a := by
  obtain ⟨a1, a2⟩ := a
  obtain ⟨b1, b2⟩ := b
  unfold Lt Ls sb
  rcases hs with rfl | rfl <;> simp only [Prod.mk.injEq] <;> omega
theorem lt_flip {s : Int} {a b : Pt} : Lt (-s) a b ↔ Lt s b a := by
  unfold Lt Ls sb; simp only; 
  have e1 : -s * (b.1 - a.1) = s * (a.1 - b.1) := by grind
  have e2 : -s * (b.2 - a.2) = s * (a.2 - b.2) := by grind
  rw [e1, e2]
theorem turn_self1 (a b : Pt) : turn a b a = 0 := by unfold turn cr sb; grind
theorem turn_self2 (a b : Pt) : turn a b b = 0 := by unfold turn cr sb; grind
theorem turn_self3 (a c : Pt) : turn a a c = 0 := by unfold turn cr sb; grind
theorem turn_rot (a b c : Pt) : turn a b c = turn b c a := by unfold turn cr sb; grind
theorem turn_swap (a b c : Pt) : turn a c b = - turn a b c := by unfold turn cr sb; grind
def pg (l : List Pt) (i : Nat) : Pt := l.getD i (0, 0)
/-- One side of a hull: corners of S from its first to its last point, all of S to the left. -/
structure Side (s : Int) (S : Pt → Prop) (L : List Pt) : Prop where
  pos : 0 < L.length
  mem : ∀ i, i < L.length → S (pg L i)
  first : ∀ p, S p → p = pg L 0 ∨ Lt s (pg L 0) p
  last : ∀ p, S p → p = pg L (L.length - 1) ∨ Lt s p (pg L (L.length - 1))
  up : ∀ i, i + 1 < L.length → Lt s (pg L i) (pg L (i + 1))
  bend : ∀ i, i + 2 < L.length → 0 < turn (pg L i) (pg L (i + 1)) (pg L (i + 2))
  left : ∀ i, i + 1 < L.length → ∀ p, S p → 0 ≤ turn (pg L i) (pg L (i + 1)) p
theorem Side.mono {s : Int} (hs : Sg s) {S : Pt → Prop} {L : List Pt} (h : Side s S L) : ∀ {i j : Nat}, i < j → j < L.length → Lt s (pg L i) (pg L j) := by
  intro i j hij hj
  induction j with
  | zero => omega
  | succ j ih =>
    rcases Nat.lt_or_ge i j with h1 | h1
    · exact lt_trans' hs (ih h1 (by omega)) (h.up j hj)
    · obtain rfl : i = j := by omega
      exact h.up i hj
/-- With b ahead of c: the last edge of a ring of edges turns left towards c; what is left of the edge and behind b is left of b to c. -/
theorem back_left {s : Int} (hs : Sg s) {a b c p : Pt} (h1 : Lt s a b) (h2 : Lt s b c) (h3 : Lt s p b) (h4 : 0 < turn a b c) (h5 : 0 ≤ turn a b p) : 0 < cr (sb b p) (sb c b) := by
  refine trr hs h3 (v := sb b a) h1 h2 ?_ ?_
  · have : cr (sb b p) (sb b a) = turn a b p := by unfold turn cr sb; grind
    omega
  · have : cr (sb b a) (sb c b) = turn a b c := by unfold turn cr sb; grind
    omega
theorem pg_take {l : List Pt} {t i : Nat} (h : i < t) : pg (l.take t) i = pg l i := by
  unfold pg; rw [List.getD_eq_getElem?_getD, List.getElem?_take_of_lt h, List.getD_eq_getElem?_getD]
theorem pg_append {a b : List Pt} {i : Nat} : pg (a ++ b) i = if i < a.length then pg a i else pg b (i - a.length) := by
  unfold pg
  split
  · rename_i h; rw [List.getD_eq_getElem?_getD, List.getElem?_append_left h, List.getD_eq_getElem?_getD]
  · rename_i h; rw [List.getD_eq_getElem?_getD, List.getElem?_append_right (by omega), List.getD_eq_getElem?_getD]
theorem pg_push {L : List Pt} {t i : Nat} (ht : t ≤ L.length) {c : Pt} (h : i ≤ t) : pg (L.take t ++ [c]) i = if i < t then pg L i else c := by
  have hl : (L.take t).length = t := by rw [List.length_take]; omega
  rw [pg_append, hl]
  split
  · rename_i h1; exact pg_take h1
  · rw [show i - t = 0 by omega]; rfl
theorem side_one (s : Int) (c : Pt) : Side s (fun p => p = c) [c] where
  pos := by simp
  mem i hi := by simp at hi; subst hi; rfl
  first p hp := .inl hp
  last p hp := .inl hp
  up i hi := by simp at hi
  bend i hi := by simp at hi
  left i hi := by simp at hi
/-- A point behind all is put behind what is left of the row. -/
theorem side_push {s : Int} (hs : Sg s) {S : Pt → Prop} {L : List Pt} (h : Side s S L) {c : Pt} (hc : ∀ p, S p → Lt s p c) {t : Nat} (h1 : 1 ≤ t) (ht : t ≤ L.length)
    (hpop : t < L.length → turn (pg L (t - 1)) (pg L t) c ≤ 0) (hstop : t = 1 ∨ 0 < turn (pg L (t - 2)) (pg L (t - 1)) c) : Side s (fun p => S p ∨ p = c) (L.take t ++ [c]) := by
  have hlen : (L.take t ++ [c]).length = t + 1 := by rw [List.length_append, List.length_take]; simp; omega
  have e0 : pg (L.take t ++ [c]) 0 = pg L 0 := by rw [pg_push ht (by omega), if_pos (by omega)]
  have et : pg (L.take t ++ [c]) t = c := by rw [pg_push ht (Nat.le_refl _), if_neg (by omega)]
  have el : ∀ i, i < t → pg (L.take t ++ [c]) i = pg L i := fun i hi => by rw [pg_push ht (by omega), if_pos hi]
  have hz : S (pg L (t - 1)) := h.mem _ (by omega)
  have hlast : 0 < t - 1 → ∀ p, Lt s p (pg L (t - 1)) → 0 ≤ turn (pg L (t - 2)) (pg L (t - 1)) p → 0 < cr (sb (pg L (t - 1)) p) (sb c (pg L (t - 1))) := fun h2 p hp hl => by
    have h3 : 0 < turn (pg L (t - 2)) (pg L (t - 1)) c := by
      rcases hstop with h4 | h4
      · omega
      · exact h4
    exact back_left hs (h.mono hs (by omega) (by omega)) (hc _ hz) hp h3 hl
  refine ⟨by omega, fun i hi => ?_, fun p hp => ?_, fun p hp => ?_, fun i hi => ?_, fun i hi => ?_, fun i hi p hp => ?_⟩
  · rw [hlen] at hi
    by_cases hit : i < t
    · rw [el i hit]; exact .inl (h.mem i (by omega))
    · obtain rfl : i = t := by omega
      rw [et]; exact .inr rfl
  · rw [e0]
    rcases hp with hp | rfl
    · exact h.first p hp
    · exact .inr (hc _ (h.mem 0 h.pos))
  · rw [hlen, Nat.add_sub_cancel, et]
    rcases hp with hp | rfl
    · exact .inr (hc p hp)
    · exact .inl rfl
  · rw [hlen] at hi
    rw [el i (by omega)]
    by_cases hit : i + 1 < t
    · rw [el _ hit]; exact h.up i (by omega)
    · obtain rfl : t = i + 1 := by omega
      rw [et]; exact hc _ (h.mem i (by omega))
  · rw [hlen] at hi
    rw [el i (by omega), el (i + 1) (by omega)]
    by_cases hit : i + 2 < t
    · rw [el _ hit]; exact h.bend i (by omega)
    · obtain rfl : t = i + 2 := by omega
      rw [et]
      rcases hstop with h2 | h2
      · omega
      · exact h2
  · rw [hlen] at hi
    rw [el i (by omega)]
    by_cases hit : i + 1 < t
    · rw [el _ hit]
      rcases hp with hp | rfl
      · exact h.left i (by omega) p hp
      · -- c is left of an edge that stays
        by_cases hj : i + 2 = t
        · subst hj
          rcases hstop with h2 | h2
          · omega
          · exact Int.le_of_lt h2
        · have hr : Lt s (pg L i) (pg L (t - 1)) := h.mono hs (by omega) (by omega)
          have h3 := hlast (by omega) (pg L i) hr (by
            have := h.left (t - 2) (by omega) (pg L i) (h.mem i (by omega))
            rwa [show t - 2 + 1 = t - 1 by omega] at this)
          have h4 := h.left i (by omega) _ hz
          have h5 := tr hs (h.up i (by omega)) hr (hc _ hz) h4 (Int.le_of_lt h3)
          have e : turn (pg L i) (pg L (i + 1)) p = turn (pg L i) (pg L (i + 1)) (pg L (t - 1)) + cr (sb (pg L (i + 1)) (pg L i)) (sb p (pg L (t - 1))) := by unfold turn cr sb; grind
          omega
    · obtain rfl : t = i + 1 := by omega
      rw [et]
      rcases hp with hp | rfl
      · rcases lt_tri hs (pg L i) p with h2 | h2 | h2
        · have hil : i + 1 < L.length := by
            rcases Nat.lt_or_ge (i + 1) L.length with h3 | h3
            · exact h3
            · rcases h.last p hp with h4 | h4
              · rw [show L.length - 1 = i by omega] at h4; subst h4; exact absurd h2 (lt_irrefl' _)
              · rw [show L.length - 1 = i by omega] at h4; exact absurd (lt_asymm' hs h2 h4) id
          have h3 := hpop hil
          rw [Nat.add_sub_cancel] at h3
          have h4 := h.left i hil p hp
          refine tr hs (hc _ hz) (h.up i hil) h2 ?_ h4
          have e : cr (sb c (pg L i)) (sb (pg L (i + 1)) (pg L i)) = - turn (pg L i) (pg L (i + 1)) c := by unfold turn cr sb; grind
          omega
        · subst h2; rw [turn_self1]; exact Int.le_refl _
        · have hi0 : 0 < i := by
            rcases Nat.eq_zero_or_pos i with h3 | h3
            · subst h3
              rcases h.first p hp with h4 | h4
              · subst h4; exact absurd h2 (lt_irrefl' _)
              · exact absurd (lt_asymm' hs h2 h4) id
            · exact h3
          have h3 := hlast (by omega) p h2 (by
            have := h.left (i - 1) (by omega) p hp
            rwa [show i - 1 + 1 = i by omega] at this)
          rw [Nat.add_sub_cancel] at h3
          have e : turn (pg L i) c p = cr (sb (pg L i) p) (sb c (pg L i)) := by unfold turn cr sb; grind
          omega
      · rw [turn_self2]; exact Int.le_refl _
theorem pg_ext {A B : List Pt} (hl : A.length = B.length) (h : ∀ i, i < A.length → pg A i = pg B i) : A = B := by
  apply List.ext_getElem hl
  intro i h1 h2
  have := h i h1
  unfold pg at this
  rwa [List.getD_eq_getElem?_getD, List.getElem?_eq_getElem h1, Option.getD_some, List.getD_eq_getElem?_getD, List.getElem?_eq_getElem h2, Option.getD_some] at this
theorem first_eq {s : Int} (hs : Sg s) {a b : Pt} (h1 : a = b ∨ Lt s b a) (h2 : b = a ∨ Lt s a b) : a = b := by
  rcases h1 with h1 | h1
  · exact h1
  · rcases h2 with h2 | h2
    · exact h2.symm
    · exact (lt_asymm' hs h1 h2).elim
/-- Of a row's edge: whoever lies on its line lies between its ends. -/
theorem side_between {s : Int} (hs : Sg s) {S : Pt → Prop} {L : List Pt} (h : Side s S L) {i : Nat} (hi : i + 1 < L.length) {p : Pt} (hp : S p) (h0 : turn (pg L i) (pg L (i + 1)) p = 0) :
    ¬ Lt s p (pg L i) ∧ ¬ Lt s (pg L (i + 1)) p := by
  refine ⟨fun h1 => ?_, fun h1 => ?_⟩
  · have hi0 : 0 < i := by
      rcases Nat.eq_zero_or_pos i with h3 | h3
      · subst h3
        rcases h.first p hp with h4 | h4
        · subst h4; exact absurd h1 (lt_irrefl' _)
        · exact (lt_asymm' hs h1 h4).elim
      · exact h3
    have b := h.bend (i - 1) (by omega)
    have l := h.left (i - 1) (by omega) p hp
    have u := h.up (i - 1) (by omega)
    rw [show i - 1 + 1 = i by omega] at b l u
    rw [show i - 1 + 2 = i + 1 by omega] at b
    have := back_left hs u (h.up i hi) h1 b l
    have e : turn (pg L i) (pg L (i + 1)) p = cr (sb (pg L i) p) (sb (pg L (i + 1)) (pg L i)) := by unfold turn cr sb; grind
    omega
  · have hi2 : i + 2 < L.length := by
      rcases Nat.lt_or_ge (i + 2) L.length with h3 | h3
      · exact h3
      · rcases h.last p hp with h4 | h4
        · rw [show L.length - 1 = i + 1 by omega] at h4; subst h4; exact absurd h1 (lt_irrefl' _)
        · rw [show L.length - 1 = i + 1 by omega] at h4; exact (lt_asymm' hs h1 h4).elim
    have b := h.bend i hi2
    have l := h.left (i + 1) hi2 p hp
    have := trl hs (h.up i hi) (h.up (i + 1) hi2) h1 (by
      have e : cr (sb (pg L (i + 1)) (pg L i)) (sb (pg L (i + 1 + 1)) (pg L (i + 1))) = turn (pg L i) (pg L (i + 1)) (pg L (i + 2)) := by
        rw [show i + 1 + 1 = i + 2 from rfl]; unfold turn cr sb; grind
      omega) (x := sb p (pg L (i + 1))) (by
      have e : cr (sb (pg L (i + 1 + 1)) (pg L (i + 1))) (sb p (pg L (i + 1))) = turn (pg L (i + 1)) (pg L (i + 1 + 1)) p := rfl
      omega)
    have e : turn (pg L i) (pg L (i + 1)) p = cr (sb (pg L (i + 1)) (pg L i)) (sb p (pg L (i + 1))) := by unfold turn cr sb; grind
    omega
/-- b comes next behind a, round about S. -/
def Nx (S : Pt → Prop) (a b : Pt) : Prop := ∃ s, Sg s ∧ Lt s a b ∧ S b ∧ ∀ p, S p → 0 < turn a b p ∨ (turn a b p = 0 ∧ ¬ Lt s p a ∧ ¬ Lt s b p)
theorem side_nx {s : Int} (hs : Sg s) {S : Pt → Prop} {L : List Pt} (h : Side s S L) {i : Nat} (hi : i + 1 < L.length) : Nx S (pg L i) (pg L (i + 1)) := by
  refine ⟨s, hs, h.up i hi, h.mem _ hi, fun p hp => ?_⟩
  have h1 := h.left i hi p hp
  rcases Int.lt_or_eq_of_le h1 with h2 | h2
  · exact .inl h2
  · exact .inr ⟨h2.symm, side_between hs h hi hp h2.symm⟩
theorem Nx.left {S : Pt → Prop} {a b : Pt} (h : Nx S a b) {p : Pt} (hp : S p) : 0 ≤ turn a b p := by
  obtain ⟨s, _, _, _, h⟩ := h
  rcases h p hp with h | h <;> omega
theorem Nx.ne {S : Pt → Prop} {a b : Pt} (h : Nx S a b) : a ≠ b := fun e => by
  obtain ⟨s, _, h1, _⟩ := h
  subst e; exact lt_irrefl' _ h1
theorem Sg.other {s t : Int} (hs : Sg s) (ht : Sg t) : t = s ∨ t = -s := by unfold Sg at *; omega
theorem nx_unique {S : Pt → Prop} {a b c : Pt} (hb : Nx S a b) (hc : Nx S a c) : b = c := by
  have h1 := hb.left hc.choose_spec.2.2.1
  have h2 := hc.left hb.choose_spec.2.2.1
  rw [turn_swap] at h2
  obtain ⟨s, hs, lb, mb, nb⟩ := hb
  obtain ⟨t, ht, lc, mc, nc⟩ := hc
  have e1 : turn a b c = 0 := by omega
  have e2 : turn a c b = 0 := by rw [turn_swap]; omega
  rcases nb c mc with h3 | ⟨_, h3, h4⟩
  · omega
  rcases nc b mb with h5 | ⟨_, h5, h6⟩
  · omega
  rcases Sg.other hs ht with rfl | rfl
  · rcases lt_tri ht b c with h7 | h7 | h7
    · exact absurd h7 h4
    · exact h7
    · exact absurd h7 h6
  · rw [lt_flip] at h5; exact absurd lb h5
theorem side_unique {s : Int} (hs : Sg s) {S : Pt → Prop} {A B : List Pt} (ha : Side s S A) (hb : Side s S B) : A = B := by
  have heq : ∀ i, i < A.length → i < B.length → pg A i = pg B i := by
    intro i
    induction i with
    | zero => intro h1 h2; exact first_eq hs (hb.first _ (ha.mem 0 h1)) (ha.first _ (hb.mem 0 h2))
    | succ i ih =>
      intro h1 h2
      have h3 := side_nx hs ha h1
      have h4 := side_nx hs hb h2
      rw [← ih (by omega) (by omega)] at h4
      exact nx_unique h3 h4
  have hle : ∀ {A B : List Pt}, Side s S A → Side s S B → (∀ i, i < A.length → i < B.length → pg A i = pg B i) → ¬ A.length < B.length := fun {A B} ha hb h hl => by
    have h0 := ha.pos
    have h1 := hb.up (A.length - 1) (by omega)
    rw [← h (A.length - 1) (by omega) (by omega), show A.length - 1 + 1 = A.length by omega] at h1
    rcases ha.last _ (hb.mem A.length hl) with h2 | h2
    · rw [h2] at h1; exact lt_irrefl' _ h1
    · exact lt_asymm' hs h1 h2
  refine pg_ext ?_ fun i hi => ?_
  · have h1 := hle ha hb heq
    have h2 := hle hb ha (fun i hi hj => (heq i hj hi).symm)
    omega
  · have h1 := hle hb ha (fun i hi hj => (heq i hj hi).symm)
    exact heq i hi (by omega)
/-- Both sides of a hull. -/
structure Both (S : Pt → Prop) (L U : List Pt) : Prop where
  lo : Side 1 S L
  hi : Side (-1) S U
theorem sg1 : Sg 1 := .inl rfl
theorem sgm : Sg (-1) := .inr rfl
theorem Both.unique {S : Pt → Prop} {L U L' U' : List Pt} (h : Both S L U) (h' : Both S L' U') : L = L' ∧ U = U' := ⟨side_unique sg1 h.lo h'.lo, side_unique sgm h.hi h'.hi⟩
def ring (L U : List Pt) : List Pt := L.dropLast ++ U.dropLast
def nx (H : List Pt) (i : Nat) : Pt := pg H ((i + 1) % H.length)
theorem Both.top {S : Pt → Prop} {L U : List Pt} (h : Both S L U) : pg L (L.length - 1) = pg U 0 := by
  have h1 := h.lo.last _ (h.hi.mem 0 h.hi.pos)
  have h2 := h.hi.first _ (h.lo.mem (L.length - 1) (by have := h.lo.pos; omega))
  exact first_eq sgm h2 (by rw [show (-1 : Int) = -(1) from rfl, lt_flip]; exact h1)
theorem Both.low {S : Pt → Prop} {L U : List Pt} (h : Both S L U) : pg U (U.length - 1) = pg L 0 := by
  have h1 := h.hi.last _ (h.lo.mem 0 h.lo.pos)
  have h2 := h.lo.first _ (h.hi.mem (U.length - 1) (by have := h.hi.pos; omega))
  exact first_eq sg1 h2 (by rw [show (-1 : Int) = -(1) from rfl, lt_flip] at h1; exact h1)
theorem Both.lens {S : Pt → Prop} {L U : List Pt} (h : Both S L U) : L.length = 1 ↔ U.length = 1 := by
  have p1 := h.lo.pos
  have p2 := h.hi.pos
  have t := h.top
  have l := h.low
  constructor
  · intro e
    rcases Nat.lt_or_ge 1 U.length with h1 | h1
    · have := h.hi.mono sgm (i := 0) (j := U.length - 1) (by omega) (by omega)
      rw [l, ← t, e] at this; exact absurd this (lt_irrefl' _)
    · omega
  · intro e
    rcases Nat.lt_or_ge 1 L.length with h1 | h1
    · have := h.lo.mono sg1 (i := 0) (j := L.length - 1) (by omega) (by omega)
      rw [t, ← l, e] at this; exact absurd this (lt_irrefl' _)
    · omega
theorem ring_length (L U : List Pt) : (ring L U).length = (L.length - 1) + (U.length - 1) := by unfold ring; rw [List.length_append, List.length_dropLast, List.length_dropLast]
theorem pg_dropLast {l : List Pt} {i : Nat} (h : i < l.length - 1) : pg l.dropLast i = pg l i := by rw [List.dropLast_eq_take]; exact pg_take h
theorem pg_ring {L U : List Pt} {i : Nat} (h : i < (ring L U).length) : pg (ring L U) i = if i < L.length - 1 then pg L i else pg U (i - (L.length - 1)) := by
  rw [ring_length] at h
  unfold ring
  rw [pg_append, List.length_dropLast]
  split
  · rename_i h1; exact pg_dropLast h1
  · exact pg_dropLast (by omega)
/-- An edge of the ring is an edge of a side. -/
theorem ring_edge {S : Pt → Prop} {L U : List Pt} (h : Both S L U) {i : Nat} (hi : i < (ring L U).length) :
    (i < L.length - 1 ∧ pg (ring L U) i = pg L i ∧ nx (ring L U) i = pg L (i + 1)) ∨ (L.length - 1 ≤ i ∧ pg (ring L U) i = pg U (i - (L.length - 1)) ∧ nx (ring L U) i = pg U (i - (L.length - 1) + 1) ∧ i - (L.length - 1) + 1 < U.length) := by
  have hl := ring_length L U
  have hle := h.lens
  have p1 := h.lo.pos
  have p2 := h.hi.pos
  unfold nx
  by_cases h1 : i < L.length - 1
  · refine .inl ⟨h1, by rw [pg_ring hi, if_pos h1], ?_⟩
    have h2 : i + 1 < (ring L U).length := by rw [hl]; omega
    rw [Nat.mod_eq_of_lt h2, pg_ring h2]
    split
    · rfl
    · rw [show i + 1 - (L.length - 1) = 0 by omega, ← h.top, show L.length - 1 = i + 1 by omega]
  · refine .inr ⟨by omega, by rw [pg_ring hi, if_neg h1], ?_, by omega⟩
    by_cases h2 : i + 1 < (ring L U).length
    · rw [Nat.mod_eq_of_lt h2, pg_ring h2, if_neg (by omega), show i + 1 - (L.length - 1) = i - (L.length - 1) + 1 by omega]
    · rw [show i + 1 = (ring L U).length by omega, Nat.mod_self, pg_ring (by omega), if_pos (by omega), ← h.low, show U.length - 1 = i - (L.length - 1) + 1 by omega]
/-- A ring round about S. -/
structure Round (S : Pt → Prop) (H : List Pt) : Prop where
  first : ∀ p, S p → p = pg H 0 ∨ Lt 1 (pg H 0) p
  next : ∀ i, i < H.length → Nx S (pg H i) (nx H i)
  back : ∀ i, 0 < i → i < H.length → pg H i ≠ pg H 0
theorem ring_round {S : Pt → Prop} {L U : List Pt} (h : Both S L U) (hn : 0 < (ring L U).length) : Round S (ring L U) := by
  have hl := ring_length L U
  have hle := h.lens
  have p1 := h.lo.pos
  have p2 := h.hi.pos
  have e0 : pg (ring L U) 0 = pg L 0 := by rw [pg_ring hn, if_pos (by omega)]
  refine ⟨fun p hp => by rw [e0]; exact h.lo.first p hp, fun i hi => ?_, fun i h0 hi => ?_⟩
  · rcases ring_edge h hi with ⟨h1, h2, h3⟩ | ⟨h1, h2, h3, h4⟩
    · rw [h2, h3]; exact side_nx sg1 h.lo (by omega)
    · rw [h2, h3]; exact side_nx sgm h.hi h4
  · rw [e0]
    intro e
    rcases ring_edge h hi with ⟨h1, h2, _⟩ | ⟨h1, h2, _, h4⟩
    · have := h.lo.mono sg1 h0 (show i < L.length by omega)
      rw [← h2, e] at this; exact lt_irrefl' _ this
    · have := h.hi.mono sgm (show i - (L.length - 1) < U.length - 1 by omega) (by omega)
      rw [← h2, e, h.low] at this; exact lt_irrefl' _ this
theorem Round.nodup {S : Pt → Prop} {H : List Pt} (h : Round S H) {i j : Nat} (hij : i < j) (hj : j < H.length) : pg H i ≠ pg H j := fun e => by
  have hs : ∀ t, pg H ((i + t) % H.length) = pg H ((j + t) % H.length) := by
    intro t
    induction t with
    | zero => rw [Nat.add_zero, Nat.add_zero, Nat.mod_eq_of_lt (by omega), Nat.mod_eq_of_lt hj]; exact e
    | succ t ih =>
      have h1 := h.next ((i + t) % H.length) (Nat.mod_lt _ (by omega))
      have h2 := h.next ((j + t) % H.length) (Nat.mod_lt _ (by omega))
      rw [← ih] at h2
      have := nx_unique h1 h2
      unfold nx at this
      rw [Nat.mod_add_mod, Nat.mod_add_mod] at this
      exact this
  have h3 := hs (H.length - j)
  rw [show j + (H.length - j) = H.length by omega, Nat.mod_self, Nat.mod_eq_of_lt (by omega)] at h3
  exact h.back _ (by omega) (by omega) h3
theorem Round.unique {S : Pt → Prop} {H K : List Pt} (h : Round S H) (k : Round S K) (h0 : 0 < H.length) (k0 : 0 < K.length) (hm : ∀ i, i < H.length → S (pg H i)) (km : ∀ i, i < K.length → S (pg K i)) : H = K := by
  have heq : ∀ i, i < H.length → i < K.length → pg H i = pg K i := by
    intro i
    induction i with
    | zero => intro h1 h2; exact first_eq sg1 (k.first _ (hm 0 h1)) (h.first _ (km 0 h2))
    | succ i ih =>
      intro h1 h2
      have h3 := h.next i (by omega)
      have h4 := k.next i (by omega)
      rw [← ih (by omega) (by omega)] at h4
      have := nx_unique h3 h4
      unfold nx at this
      rwa [Nat.mod_eq_of_lt h1, Nat.mod_eq_of_lt h2] at this
  have hle : ∀ {H K : List Pt}, Round S H → Round S K → 0 < H.length → (∀ i, i < H.length → i < K.length → pg H i = pg K i) → ¬ H.length < K.length := fun {H K} h k h0 heq hl => by
    have h1 := h.next (H.length - 1) (by omega)
    have h2 := k.next (H.length - 1) (by omega)
    rw [← heq _ (by omega) (by omega)] at h2
    have := nx_unique h1 h2
    unfold nx at this
    rw [show H.length - 1 + 1 = H.length by omega, Nat.mod_self, Nat.mod_eq_of_lt hl, heq 0 (by omega) (by omega)] at this
    exact k.back _ h0 hl this.symm
  refine pg_ext ?_ fun i hi => ?_
  · have h1 := hle h k h0 heq
    have h2 := hle k h k0 (fun i hi hj => (heq i hj hi).symm)
    omega
  · have h2 := hle k h k0 (fun i hi hj => (heq i hj hi).symm)
    exact heq i hi (by omega)
theorem Round.bend {S : Pt → Prop} {H : List Pt} (h : Round S H) (hm : ∀ i, i < H.length → S (pg H i)) (h3 : 3 ≤ H.length) {i : Nat} (hi : i < H.length) : 0 < turn (pg H i) (pg H ((i + 1) % H.length)) (pg H ((i + 2) % H.length)) := by
  have n1 := h.next i hi
  have n2 := h.next ((i + 1) % H.length) (Nat.mod_lt _ (by omega))
  unfold nx at n1 n2
  rw [Nat.mod_add_mod] at n2
  have mc := hm ((i + 2) % H.length) (Nat.mod_lt _ (by omega))
  have ma := hm i hi
  have hne : pg H i ≠ pg H ((i + 2) % H.length) := by
    rcases Nat.lt_or_ge (i + 2) H.length with h4 | h4
    · rw [Nat.mod_eq_of_lt h4]; exact h.nodup (by omega) h4
    · rw [Nat.mod_eq_sub_mod h4, Nat.mod_eq_of_lt (by omega)]
      exact (h.nodup (i := i + 2 - H.length) (j := i) (by omega) hi).symm
  generalize pg H i = a at *
  generalize pg H ((i + 1) % H.length) = b at *
  rw [show i + 1 + 1 = i + 2 from rfl] at n2
  generalize pg H ((i + 2) % H.length) = c at *
  obtain ⟨s, hs, lb, mb, nb⟩ := n1
  obtain ⟨t, ht, lc, _, nc⟩ := n2
  rcases nb c mc with h4 | ⟨h4, h5, h6⟩
  · exact h4
  · exfalso
    rcases nc a ma with h7 | ⟨h7, h8, h9⟩
    · have := turn_rot a b c; omega
    · rcases Sg.other hs ht with rfl | rfl
      · exact h6 lc
      · rw [lt_flip] at h8 h9 lc
        rcases lt_tri hs a c with h10 | h10 | h10
        · exact h9 h10
        · exact hne h10
        · exact h5 h10
def sumTo (L : List Pt) : Nat → Int
  | 0 => 0
  | k + 1 => sumTo L k + cr (pg L k) (pg L (k + 1))
/-- The corner of a side where a direction leads along it: all of S lies to the left. -/
theorem support_at {s : Int} (hs : Sg s) {S : Pt → Prop} {L : List Pt} (h : Side s S L) {d : Pt} (hd : Ls s d) {j : Nat} (hj : j < L.length) (h1 : j + 1 < L.length → 0 ≤ cr d (sb (pg L (j + 1)) (pg L j)))
    (h2 : 0 < j → 0 ≤ cr (sb (pg L j) (pg L (j - 1))) d) {p : Pt} (hp : S p) : 0 ≤ cr d (sb p (pg L j)) := by
  rcases lt_tri hs (pg L j) p with h3 | h3 | h3
  · have hjl : j + 1 < L.length := by
      rcases Nat.lt_or_ge (j + 1) L.length with h4 | h4
      · exact h4
      · rcases h.last p hp with h5 | h5
        · rw [show L.length - 1 = j by omega] at h5; subst h5; exact absurd h3 (lt_irrefl' _)
        · rw [show L.length - 1 = j by omega] at h5; exact (lt_asymm' hs h3 h5).elim
    exact tr hs hd (h.up j hjl) h3 (h1 hjl) (h.left j hjl p hp)
  · subst h3; unfold cr sb; simp
  · have hj0 : 0 < j := by
      rcases Nat.eq_zero_or_pos j with h4 | h4
      · subst h4
        rcases h.first p hp with h5 | h5
        · subst h5; exact absurd h3 (lt_irrefl' _)
        · exact (lt_asymm' hs h3 h5).elim
      · exact h4
    have u := h.up (j - 1) (by omega)
    have l := h.left (j - 1) (by omega) p hp
    rw [show j - 1 + 1 = j by omega] at u l
    have h5 := tr hs h3 u hd (by
      have : cr (sb (pg L j) p) (sb (pg L j) (pg L (j - 1))) = turn (pg L (j - 1)) (pg L j) p := by unfold turn cr sb; grind
      omega) (h2 hj0)
    have : cr d (sb p (pg L j)) = cr (sb (pg L j) p) d := by unfold cr sb; grind
    omega
theorem support {s : Int} (hs : Sg s) {S : Pt → Prop} {L : List Pt} (h : Side s S L) {d : Pt} (hd : Ls s d) : ∃ j, j < L.length ∧ ∀ p, S p → 0 ≤ cr d (sb p (pg L j)) := by
  have hf : ∀ k j, j + k + 1 = L.length → (0 < j → 0 ≤ cr (sb (pg L j) (pg L (j - 1))) d) → ∃ j, j < L.length ∧ (j + 1 < L.length → 0 ≤ cr d (sb (pg L (j + 1)) (pg L j))) ∧ (0 < j → 0 ≤ cr (sb (pg L j) (pg L (j - 1))) d) := by
    intro k
    induction k with
    | zero => intro j hj hc; exact ⟨j, by omega, fun h => by omega, hc⟩
    | succ k ih =>
      intro j hj hc
      rcases Int.lt_or_le (cr d (sb (pg L (j + 1)) (pg L j))) 0 with h1 | h1
      rotate_left
      · exact ⟨j, by omega, fun _ => h1, hc⟩
      · refine ih (j + 1) (by omega) fun _ => ?_
        rw [Nat.add_sub_cancel, cr_swap]; omega
  have h0 := h.pos
  obtain ⟨j, hj, h1, h2⟩ := hf (L.length - 1) 0 (by omega) (fun h => by omega)
  exact ⟨j, hj, fun p hp => support_at hs h hd hj h1 h2 hp⟩
/-- The side of what holds more goes round more. -/
theorem side_area {s : Int} (hs : Sg s) {S T : Pt → Prop} {G K : List Pt} (g : Side s S G) (k : Side s T K) (hTS : ∀ i, i < K.length → S (pg K i)) :
    0 ≤ sumTo G (G.length - 1) - sumTo K (K.length - 1) + cr (pg G (G.length - 1)) (pg K (K.length - 1)) - cr (pg G 0) (pg K 0) := by
  have g0 := g.pos
  have k0 := k.pos
  have hstep : ∀ n j i, (G.length - 1 - j) + (K.length - 1 - i) = n → j < G.length → i < K.length → (i + 1 < K.length → 0 < j → 0 ≤ cr (sb (pg G j) (pg G (j - 1))) (sb (pg K (i + 1)) (pg K i))) →
      0 ≤ sumTo G j - sumTo K i + cr (pg G j) (pg K i) - cr (pg G 0) (pg K 0) → 0 ≤ sumTo G (G.length - 1) - sumTo K (K.length - 1) + cr (pg G (G.length - 1)) (pg K (K.length - 1)) - cr (pg G 0) (pg K 0) := by
    intro n
    induction n with
    | zero =>
      intro j i hn hj hi _ ha
      obtain rfl : j = G.length - 1 := by omega
      obtain rfl : i = K.length - 1 := by omega
      exact ha
    | succ n ih =>
      intro j i hn hj hi hc ha
      have stepG : j + 1 < G.length → (i + 1 < K.length → 0 ≤ cr (sb (pg G (j + 1)) (pg G j)) (sb (pg K (i + 1)) (pg K i))) → 0 ≤ sumTo G (G.length - 1) - sumTo K (K.length - 1) + cr (pg G (G.length - 1)) (pg K (K.length - 1)) - cr (pg G 0) (pg K 0) := fun hj1 hcc => by
        refine ih (j + 1) i (by omega) hj1 hi (fun hi1 _ => by rw [Nat.add_sub_cancel]; exact hcc hi1) ?_
        have hl := g.left j hj1 _ (hTS i hi)
        have e : turn (pg G j) (pg G (j + 1)) (pg K i) = cr (pg G j) (pg G (j + 1)) + cr (pg G (j + 1)) (pg K i) - cr (pg G j) (pg K i) := by unfold turn cr sb; grind
        have e2 : sumTo G (j + 1) = sumTo G j + cr (pg G j) (pg G (j + 1)) := rfl
        omega
      have stepK : i + 1 < K.length → (j + 1 < G.length → 0 ≤ cr (sb (pg K (i + 1)) (pg K i)) (sb (pg G (j + 1)) (pg G j))) → 0 ≤ sumTo G (G.length - 1) - sumTo K (K.length - 1) + cr (pg G (G.length - 1)) (pg K (K.length - 1)) - cr (pg G 0) (pg K 0) := fun hi1 hcc => by
        have hd := k.up i hi1
        have hsup := support_at hs g hd hj hcc (hc hi1) (hTS i hi)
        refine ih j (i + 1) (by omega) hj hi1 (fun hi2 hj0 => ?_) ?_
        · have u := g.up (j - 1) (by omega)
          rw [show j - 1 + 1 = j by omega] at u
          refine tr hs u hd (k.up (i + 1) hi2) (hc hi1 hj0) ?_
          have b := k.bend i hi2
          have e : cr (sb (pg K (i + 1)) (pg K i)) (sb (pg K (i + 1 + 1)) (pg K (i + 1))) = turn (pg K i) (pg K (i + 1)) (pg K (i + 2)) := by rw [show i + 1 + 1 = i + 2 from rfl]; unfold turn cr sb; grind
          omega
        · have e : cr (sb (pg K (i + 1)) (pg K i)) (sb (pg K i) (pg G j)) = - cr (pg K i) (pg K (i + 1)) + cr (pg G j) (pg K (i + 1)) - cr (pg G j) (pg K i) := by unfold cr sb; grind
          have e2 : sumTo K (i + 1) = sumTo K i + cr (pg K i) (pg K (i + 1)) := rfl
          omega
      by_cases hj1 : j + 1 < G.length
      · by_cases hi1 : i + 1 < K.length
        · rcases Int.lt_or_le (cr (sb (pg G (j + 1)) (pg G j)) (sb (pg K (i + 1)) (pg K i))) 0 with h1 | h1
          rotate_left
          · exact stepG hj1 fun _ => h1
          · exact stepK hi1 fun _ => by rw [cr_swap]; omega
        · exact stepG hj1 fun h => absurd h hi1
      · exact stepK (by omega) fun h => absurd h hj1
  exact hstep _ 0 0 rfl g0 k0 (fun _ h => by omega) (by simp [sumTo])
/-- Twice a ring's area. -/
def area (H : List Pt) : Int := ((List.range H.length).map fun i => cr (pg H i) (nx H i)).sum
theorem sum_range (f : Nat → Int) (n : Nat) : ((List.range (n + 1)).map f).sum = ((List.range n).map f).sum + f n := by
  rw [List.range_succ, List.map_append, List.sum_append]; simp
theorem sum_add (f : Nat → Int) (a : Nat) : ∀ b, ((List.range (a + b)).map f).sum = ((List.range a).map f).sum + ((List.range b).map fun i => f (a + i)).sum
  | 0 => by simp
  | b + 1 => by rw [← Nat.add_assoc, sum_range, sum_range, sum_add f a b]; omega
theorem sum_congr {f g : Nat → Int} {n : Nat} (h : ∀ i, i < n → f i = g i) : ((List.range n).map f).sum = ((List.range n).map g).sum := by
  congr 1
  exact List.map_congr_left fun i hi => h i (List.mem_range.1 hi)
theorem sumTo_eq (L : List Pt) : ∀ k, sumTo L k = ((List.range k).map fun i => cr (pg L i) (pg L (i + 1))).sum
  | 0 => rfl
  | k + 1 => by rw [sum_range, sumTo, sumTo_eq L k]
theorem area_ring {S : Pt → Prop} {L U : List Pt} (h : Both S L U) : area (ring L U) = sumTo L (L.length - 1) + sumTo U (U.length - 1) := by
  have hl := ring_length L U
  unfold area
  rw [hl, sum_add, sumTo_eq, sumTo_eq]
  congr 1
  · refine sum_congr fun i hi => ?_
    rcases ring_edge h (i := i) (by omega) with ⟨_, h2, h3⟩ | ⟨h1, _⟩
    · rw [h2, h3]
    · omega
  · refine sum_congr fun i hi => ?_
    rcases ring_edge h (i := L.length - 1 + i) (by omega) with ⟨h1, _⟩ | ⟨_, h2, h3, _⟩
    · omega
    · rw [h2, h3, Nat.add_sub_cancel_left]
theorem area_mono {S T : Pt → Prop} {L U L' U' : List Pt} (h : Both S L U) (k : Both T L' U') (hl : ∀ i, i < L'.length → S (pg L' i)) (hu : ∀ i, i < U'.length → S (pg U' i)) : area (ring L' U') ≤ area (ring L U) := by
  rw [area_ring h, area_ring k]
  have h1 := side_area sg1 h.lo k.lo hl
  have h2 := side_area sgm h.hi k.hi hu
  rw [h.top, k.top] at h1
  rw [h.low, k.low] at h2
  omega
/-- Seen from whatever point, a ring's triangles make its area. -/
theorem area_from (o : Pt) (H : List Pt) : area H = ((List.range H.length).map fun i => turn o (pg H i) (nx H i)).sum := by
  rcases Nat.eq_zero_or_pos H.length with h0 | h0
  · unfold area; rw [h0]; rfl
  have e1 : ∀ k, k < H.length → ((List.range k).map fun i => turn o (pg H i) (nx H i)).sum = ((List.range k).map fun i => cr (pg H i) (nx H i)).sum + cr (pg H k) o - cr (pg H 0) o := by
    intro k
    induction k with
    | zero => intro _; simp
    | succ k ih =>
      intro hk
      rw [sum_range, sum_range, ih (by omega)]
      have e : nx H k = pg H (k + 1) := by unfold nx; rw [Nat.mod_eq_of_lt hk]
      rw [e]
      have : turn o (pg H k) (pg H (k + 1)) = cr (pg H k) (pg H (k + 1)) + cr (pg H (k + 1)) o - cr (pg H k) o := by unfold turn cr sb; grind
      omega
  obtain ⟨m, hm⟩ : ∃ m, H.length = m + 1 := ⟨H.length - 1, by omega⟩
  have e2 := e1 m (by omega)
  unfold area
  rw [hm, sum_range, sum_range, e2]
  have e : nx H m = pg H 0 := by unfold nx; rw [hm, Nat.mod_self]
  rw [e]
  have : turn o (pg H m) (pg H 0) = cr (pg H m) (pg H 0) + cr (pg H 0) o - cr (pg H m) o := by unfold turn cr sb; grind
  omega
theorem sum_pos {f : Nat → Int} {n : Nat} (h : ∀ i, i < n → 0 ≤ f i) {j : Nat} (hj : j < n) (hp : 0 < f j) : 0 < ((List.range n).map f).sum := by
  have hle : ∀ n, (∀ i, i < n → 0 ≤ f i) → 0 ≤ ((List.range n).map f).sum := by
    intro n
    induction n with
    | zero => intro _; simp
    | succ n ih => intro h; rw [sum_range]; have := ih (fun i hi => h i (by omega)); have := h n (by omega); omega
  induction n with
  | zero => omega
  | succ n ih =>
    rw [sum_range]
    rcases Nat.lt_or_ge j n with h1 | h1
    · have := ih (fun i hi => h i (by omega)) h1
      have := h n (by omega)
      omega
    · obtain rfl : j = n := by omega
      have := hle j (fun i hi => h i (by omega))
      omega
theorem Round.area_pos {S : Pt → Prop} {H : List Pt} (h : Round S H) (hm : ∀ i, i < H.length → S (pg H i)) (h3 : 3 ≤ H.length) : 0 < area H := by
  rw [area_from (pg H 0)]
  refine sum_pos (fun i hi => ?_) (j := 1) (by omega) ?_
  · rw [turn_rot]; exact (h.next i hi).left (hm 0 (by omega))
  · have := h.bend hm h3 (i := 0) (by omega)
    rw [Nat.mod_eq_of_lt (by omega), Nat.mod_eq_of_lt (by omega)] at this
    unfold nx
    rw [Nat.mod_eq_of_lt (by omega)]
    exact this
theorem Side.sub {s : Int} {S T : Pt → Prop} {L : List Pt} (h : Side s S L) (hT : ∀ p, T p → S p) (hm : ∀ i, i < L.length → T (pg L i)) : Side s T L :=
  ⟨h.pos, hm, fun p hp => h.first p (hT p hp), fun p hp => h.last p (hT p hp), h.up, h.bend, fun i hi p hp => h.left i hi p (hT p hp)⟩
theorem Side.of_iff {s : Int} {S T : Pt → Prop} {L : List Pt} (h : Side s S L) (hT : ∀ p, T p ↔ S p) : Side s T L :=
  ⟨h.pos, fun i hi => (hT _).2 (h.mem i hi), fun p hp => h.first p ((hT p).1 hp), fun p hp => h.last p ((hT p).1 hp), h.up, h.bend, fun i hi p hp => h.left i hi p ((hT p).1 hp)⟩
theorem Both.of_iff {S T : Pt → Prop} {L U : List Pt} (h : Both S L U) (hT : ∀ p, T p ↔ S p) : Both T L U := ⟨h.lo.of_iff hT, h.hi.of_iff hT⟩
/-- Three points on one line. -/
theorem line3 {a b p q r : Pt} (hab : a ≠ b) (hp : turn a b p = 0) (hq : turn a b q = 0) (hr : turn a b r = 0) : turn p q r = 0 := by
  have h1 : cr (sb b a) (sb q p) = 0 := by
    have : cr (sb b a) (sb q p) = turn a b q - turn a b p := by unfold turn cr sb; grind
    omega
  have h2 : cr (sb b a) (sb r p) = 0 := by
    have : cr (sb b a) (sb r p) = turn a b r - turn a b p := by unfold turn cr sb; grind
    omega
  have h3 : cr (sb q p) (sb b a) = 0 := by rw [cr_swap]; omega
  have e1 := cr_id1 (sb q p) (sb b a) (sb r p)
  have e2 := cr_id2 (sb q p) (sb b a) (sb r p)
  rw [h2, h3] at e1 e2
  have e3 : turn p q r * (sb b a).1 = 0 := by show cr (sb q p) (sb r p) * _ = 0; omega
  have e4 : turn p q r * (sb b a).2 = 0 := by show cr (sb q p) (sb r p) * _ = 0; omega
  rcases Int.mul_eq_zero.1 e3 with h | h
  · exact h
  · rcases Int.mul_eq_zero.1 e4 with h5 | h5
    · exact h5
    · exact absurd (Prod.ext (show a.1 = b.1 by unfold sb at h; simp only at h; omega) (show a.2 = b.2 by unfold sb at h5; simp only at h5; omega)) hab
/-- All of S lies on one line. -/
def Flat (S : Pt → Prop) : Prop := ∀ p q r, S p → S q → S r → turn p q r = 0
theorem Both.flat {S : Pt → Prop} {L U : List Pt} (h : Both S L U) (hn : (ring L U).length < 3) : Flat S := by
  intro p q r hp hq hr
  have hl := ring_length L U
  have hle := h.lens
  have p1 := h.lo.pos
  have p2 := h.hi.pos
  by_cases h1 : L.length = 1
  · have hs : ∀ x, S x → x = pg L 0 := fun x hx => by
      have h2 := h.lo.last x hx
      rw [h1] at h2
      exact first_eq sg1 (h.lo.first x hx) (h2.imp Eq.symm id)
    rw [hs p hp, hs q hq, turn_self3]
  · have hL : L.length = 2 := by omega
    have hU : U.length = 2 := by omega
    have t := h.top
    have l := h.low
    rw [hL] at t
    rw [hU] at l
    simp only [Nat.reduceSub] at t l
    have hz : ∀ x, S x → turn (pg L 0) (pg L 1) x = 0 := fun x hx => by
      have h2 := h.lo.left 0 (by omega) x hx
      have h3 := h.hi.left 0 (by omega) x hx
      rw [← t, show 0 + 1 = 1 from rfl, l] at h3
      rw [show 0 + 1 = 1 from rfl] at h2
      have e : turn (pg L 1) (pg L 0) x = - turn (pg L 0) (pg L 1) x := by unfold turn cr sb; grind
      omega
    have hne : pg L 0 ≠ pg L 1 := fun e => by have := h.lo.up 0 (by omega); rw [show 0 + 1 = 1 from rfl, ← e] at this; exact lt_irrefl' _ this
    exact line3 hne (hz p hp) (hz q hq) (hz r hr)
theorem ring_mem {S : Pt → Prop} {L U : List Pt} (h : Both S L U) {i : Nat} (hi : i < (ring L U).length) : S (pg (ring L U) i) := by
  rcases ring_edge h hi with ⟨h1, h2, _⟩ | ⟨h1, h2, _, h4⟩
  · rw [h2]; exact h.lo.mem i (by omega)
  · rw [h2]; exact h.hi.mem _ (by omega)
theorem pg_mem {l : List Pt} {i : Nat} (h : i < l.length) : pg l i ∈ l := by
  unfold pg; rw [List.getD_eq_getElem?_getD, List.getElem?_eq_getElem h, Option.getD_some]; exact List.getElem_mem _
theorem mem_pg {l : List Pt} {p : Pt} (h : p ∈ l) : ∃ i, i < l.length ∧ p = pg l i := by
  obtain ⟨i, hi, rfl⟩ := List.mem_iff_getElem.1 h
  exact ⟨i, hi, by unfold pg; rw [List.getD_eq_getElem?_getD, List.getElem?_eq_getElem hi, Option.getD_some]⟩
theorem Both.not_flat {S : Pt → Prop} {L U : List Pt} (h : Both S L U) (hn : 3 ≤ (ring L U).length) : ¬ Flat S := fun hf => by
  have hr := ring_round h (by omega)
  have := hr.bend (fun i hi => ring_mem h hi) hn (i := 0) (by omega)
  rw [hf _ _ _ (ring_mem h (by omega)) (ring_mem h (Nat.mod_lt _ (by omega))) (ring_mem h (Nat.mod_lt _ (by omega)))] at this
  omega
/-- The corners of both sides are those of the ring, if it has any. -/
theorem corner_lo {S : Pt → Prop} {L U : List Pt} (h : Both S L U) (hn : 0 < (ring L U).length) {i : Nat} (hi : i < L.length) : pg L i ∈ ring L U := by
  have hl := ring_length L U
  have hle := h.lens
  have p1 := h.lo.pos
  have p2 := h.hi.pos
  by_cases h1 : i < L.length - 1
  · have := pg_mem (l := ring L U) (i := i) (by omega)
    rwa [pg_ring (by omega), if_pos h1] at this
  · obtain rfl : i = L.length - 1 := by omega
    have := pg_mem (l := ring L U) (i := L.length - 1) (by omega)
    rwa [pg_ring (by omega), if_neg (by omega), Nat.sub_self, ← h.top] at this
theorem corner_hi {S : Pt → Prop} {L U : List Pt} (h : Both S L U) (hn : 0 < (ring L U).length) {i : Nat} (hi : i < U.length) : pg U i ∈ ring L U := by
  have hl := ring_length L U
  have hle := h.lens
  have p1 := h.lo.pos
  have p2 := h.hi.pos
  by_cases h1 : i < U.length - 1
  · have := pg_mem (l := ring L U) (i := L.length - 1 + i) (by omega)
    rwa [pg_ring (by omega), if_neg (by omega), Nat.add_sub_cancel_left] at this
  · obtain rfl : i = U.length - 1 := by omega
    have := pg_mem (l := ring L U) (i := 0) (by omega)
    rwa [pg_ring (by omega), if_pos (by omega), ← h.low] at this
/-- A hull is its own hull. -/
theorem Both.own {S : Pt → Prop} {L U : List Pt} (h : Both S L U) (hn : 0 < (ring L U).length) : Both (fun p => p ∈ ring L U) L U := by
  have hT : ∀ p, p ∈ ring L U → S p := fun p hp => by
    obtain ⟨i, hi, rfl⟩ := mem_pg hp
    exact ring_mem h hi
  exact ⟨h.lo.sub hT fun i hi => corner_lo h hn hi, h.hi.sub hT fun i hi => corner_hi h hn hi⟩
/-- At a corner that is the first one, seen from s: who is left of both edges is not ahead of it. -/
theorem corner_first {s : Int} (hs : Sg s) {a b c p : Pt} (h1 : Lt s b c) (h2 : Lt s b a) (h3 : 0 < turn a b c) (h4 : 0 ≤ turn a b p) (h5 : 0 ≤ turn b c p) : ¬ Lt s p b := fun h => by
  have q1 : 0 ≤ cr (sb b p) (sb c b) := by
    have : cr (sb b p) (sb c b) = turn b c p := by unfold turn cr sb; grind
    omega
  have q2 : 0 < cr (sb c b) (sb a b) := by
    have : cr (sb c b) (sb a b) = turn a b c := by unfold turn cr sb; grind
    omega
  have q3 := trr hs h h1 h2 q1 q2
  have : cr (sb b p) (sb a b) = - turn a b p := by unfold turn cr sb; grind
  omega
/-- Whoever is left of all edges adds nothing. -/
theorem Both.add {S : Pt → Prop} {L U : List Pt} (h : Both S L U) (h3 : 3 ≤ (ring L U).length) {p : Pt} (hp : ∀ i, i < (ring L U).length → 0 ≤ turn (pg (ring L U) i) (nx (ring L U) i) p) : Both (fun x => S x ∨ x = p) L U := by
  have hl := ring_length L U
  have hle := h.lens
  have p1 := h.lo.pos
  have p2 := h.hi.pos
  have hr := ring_round h (by omega)
  have t := h.top
  have lw := h.low
  have hL : ∀ i, i + 1 < L.length → 0 ≤ turn (pg L i) (pg L (i + 1)) p := fun i hi => by
    have := hp i (by omega)
    rcases ring_edge h (i := i) (by omega) with ⟨_, e1, e2⟩ | ⟨h1, _⟩
    · rwa [e1, e2] at this
    · omega
  have hU : ∀ i, i + 1 < U.length → 0 ≤ turn (pg U i) (pg U (i + 1)) p := fun i hi => by
    have := hp (L.length - 1 + i) (by omega)
    rcases ring_edge h (i := L.length - 1 + i) (by omega) with ⟨h1, _⟩ | ⟨_, e1, e2, _⟩
    · omega
    · rwa [e1, e2, Nat.add_sub_cancel_left] at this
  have upL : ∀ i, i + 1 < L.length → Lt (-1) (pg L (i + 1)) (pg L i) := fun i hi => by rw [show (-1 : Int) = -(1) from rfl, lt_flip]; exact h.lo.up i hi
  have upU : ∀ i, i + 1 < U.length → Lt 1 (pg U (i + 1)) (pg U i) := fun i hi => by have := h.hi.up i hi; rwa [show (-1 : Int) = -(1) from rfl, lt_flip] at this
  -- the low corner
  have hlow : ¬ Lt 1 p (pg L 0) := by
    have b := hr.bend (fun i hi => ring_mem h hi) h3 (i := (ring L U).length - 1) (by omega)
    rw [show (ring L U).length - 1 + 1 = (ring L U).length by omega, Nat.mod_self, show (ring L U).length - 1 + 2 = (ring L U).length + 1 by omega, Nat.add_mod_left, Nat.mod_eq_of_lt (by omega)] at b
    have e0 : pg (ring L U) 0 = pg L 0 := by rw [pg_ring (by omega), if_pos (by omega)]
    have e1 : pg (ring L U) 1 = pg L 1 := by
      rcases ring_edge h (i := 0) (by omega) with ⟨_, _, h5⟩ | ⟨h1, _⟩
      · unfold nx at h5; rw [Nat.mod_eq_of_lt (by omega)] at h5; exact h5
      · omega
    have e2 : pg (ring L U) ((ring L U).length - 1) = pg U (U.length - 2) := by rw [pg_ring (by omega), if_neg (by omega)]; congr 1; omega
    rw [e0, e1, e2] at b
    have u1 := upU (U.length - 2) (by omega)
    rw [show U.length - 2 + 1 = U.length - 1 by omega, lw] at u1
    have l1 := hU (U.length - 2) (by omega)
    rw [show U.length - 2 + 1 = U.length - 1 by omega, lw] at l1
    exact corner_first sg1 (h.lo.up 0 (by omega)) u1 b l1 (hL 0 (by omega))
  have htop : ¬ Lt (-1) p (pg U 0) := by
    have b := hr.bend (fun i hi => ring_mem h hi) h3 (i := L.length - 2) (by omega)
    rw [show L.length - 2 + 1 = L.length - 1 by omega, show L.length - 2 + 2 = L.length by omega, Nat.mod_eq_of_lt (by omega)] at b
    have e0 : pg (ring L U) (L.length - 2) = pg L (L.length - 2) := by rw [pg_ring (by omega), if_pos (by omega)]
    have e1 : pg (ring L U) (L.length - 1) = pg U 0 := by rw [pg_ring (by omega), if_neg (by omega), Nat.sub_self]
    have e2 : pg (ring L U) (L.length % (ring L U).length) = pg U 1 := by
      rcases ring_edge h (i := L.length - 1) (by omega) with ⟨h1, _⟩ | ⟨_, _, h5, _⟩
      · omega
      · unfold nx at h5
        rw [show L.length - 1 + 1 = L.length by omega, Nat.sub_self] at h5
        exact h5
    rw [e0, e1, e2] at b
    have u1 := upL (L.length - 2) (by omega)
    rw [show L.length - 2 + 1 = L.length - 1 by omega, t] at u1
    have l1 := hL (L.length - 2) (by omega)
    rw [show L.length - 2 + 1 = L.length - 1 by omega, t] at l1
    exact corner_first sgm (h.hi.up 0 (by omega)) u1 b l1 (hU 0 (by omega))
  have hor : ∀ {s : Int} {a : Pt}, Sg s → ¬ Lt s p a → p = a ∨ Lt s a p := fun {s a} hs hn => by
    rcases lt_tri hs p a with h1 | h1 | h1
    · exact absurd h1 hn
    · exact .inl h1
    · exact .inr h1
  have hflip : ∀ {s : Int} {a : Pt}, p = a ∨ Lt s a p → p = a ∨ Lt (-s) p a := fun h => h.imp id fun h => by rw [lt_flip]; exact h
  refine ⟨⟨h.lo.pos, fun i hi => .inl (h.lo.mem i hi), fun x hx => ?_, fun x hx => ?_, h.lo.up, h.lo.bend, fun i hi x hx => ?_⟩, ⟨h.hi.pos, fun i hi => .inl (h.hi.mem i hi), fun x hx => ?_, fun x hx => ?_, h.hi.up, h.hi.bend, fun i hi x hx => ?_⟩⟩
  · rcases hx with hx | rfl
    · exact h.lo.first x hx
    · exact hor sg1 hlow
  · rcases hx with hx | rfl
    · exact h.lo.last x hx
    · rw [t]; exact hflip (s := -1) (hor sgm htop)
  · rcases hx with hx | rfl
    · exact h.lo.left i hi x hx
    · exact hL i hi
  · rcases hx with hx | rfl
    · exact h.hi.first x hx
    · exact hor sgm htop
  · rcases hx with hx | rfl
    · exact h.hi.last x hx
    · rw [lw]; exact hflip (s := 1) (hor sg1 hlow)
  · rcases hx with hx | rfl
    · exact h.hi.left i hi x hx
    · exact hU i hi
/-- What lies in the hulls of two parts lies to the left of what has their corners. -/
theorem side_join {s : Int} (hs : Sg s) {A B T : Pt → Prop} {G KA KB : List Pt} (g : Side s T G) (ka : Side s A KA) (kb : Side s B KB) (hT : ∀ p, T p → A p ∨ B p) (ha : ∀ i, i < KA.length → T (pg KA i)) (hb : ∀ i, i < KB.length → T (pg KB i)) :
    Side s (fun p => A p ∨ B p) G := by
  have hle : ∀ {a b c : Pt}, (b = a ∨ Lt s a b) → (c = b ∨ Lt s b c) → c = a ∨ Lt s a c := fun {a b c} h1 h2 => by
    rcases h2 with rfl | h2
    · exact h1
    · rcases h1 with rfl | h1
      · exact .inr h2
      · exact .inr (lt_trans' hs h1 h2)
  have hge : ∀ {a b c : Pt}, (b = a ∨ Lt s b a) → (c = b ∨ Lt s c b) → c = a ∨ Lt s c a := fun {a b c} h1 h2 => by
    rcases h2 with rfl | h2
    · exact h1
    · rcases h1 with rfl | h1
      · exact .inr h2
      · exact .inr (lt_trans' hs h2 h1)
  have hleft : ∀ {C : Pt → Prop} {K : List Pt}, Side s C K → (∀ i, i < K.length → T (pg K i)) → ∀ i, i + 1 < G.length → ∀ p, C p → 0 ≤ turn (pg G i) (pg G (i + 1)) p := fun {C K} k hk i hi p hp => by
    obtain ⟨j, hj, h1⟩ := support hs k (g.up i hi)
    have h2 := h1 p hp
    have h3 := g.left i hi _ (hk j hj)
    have e : turn (pg G i) (pg G (i + 1)) p = turn (pg G i) (pg G (i + 1)) (pg K j) + cr (sb (pg G (i + 1)) (pg G i)) (sb p (pg K j)) := by unfold turn cr sb; grind
    omega
  refine ⟨g.pos, fun i hi => hT _ (g.mem i hi), fun p hp => ?_, fun p hp => ?_, g.up, g.bend, fun i hi p hp => ?_⟩
  · rcases hp with hp | hp
    · exact hle (g.first _ (ha 0 ka.pos)) (ka.first p hp)
    · exact hle (g.first _ (hb 0 kb.pos)) (kb.first p hp)
  · rcases hp with hp | hp
    · exact hge (g.last _ (ha (KA.length - 1) (by have := ka.pos; omega))) (ka.last p hp)
    · exact hge (g.last _ (hb (KB.length - 1) (by have := kb.pos; omega))) (kb.last p hp)
  · rcases hp with hp | hp
    · exact hleft ka ha i hi p hp
    · exact hleft kb hb i hi p hp
def mv (d p : Pt) : Pt := (p.1 + d.1, p.2 + d.2)
theorem turn_mv (d a b c : Pt) : turn (mv d a) (mv d b) (mv d c) = turn a b c := by unfold turn cr sb mv; grind
theorem lt_mv {s : Int} (d a b : Pt) : Lt s (mv d a) (mv d b) ↔ Lt s a b := by
  unfold Lt Ls sb mv
  simp only [show b.1 + d.1 - (a.1 + d.1) = b.1 - a.1 by omega, show b.2 + d.2 - (a.2 + d.2) = b.2 - a.2 by omega]
theorem pg_map {L : List Pt} {f : Pt → Pt} {i : Nat} (h : i < L.length) : pg (L.map f) i = f (pg L i) := by
  unfold pg; rw [List.getD_eq_getElem?_getD, List.getElem?_map, List.getElem?_eq_getElem h, List.getD_eq_getElem?_getD, List.getElem?_eq_getElem h]; rfl
theorem side_mv {s : Int} {S : Pt → Prop} {L : List Pt} (h : Side s S L) (d : Pt) : Side s (fun p => ∃ q, S q ∧ p = mv d q) (L.map (mv d)) := by
  have hl : (L.map (mv d)).length = L.length := List.length_map ..
  have p1 := h.pos
  refine ⟨by omega, fun i hi => ?_, ?_, ?_, fun i hi => ?_, fun i hi => ?_, ?_⟩
  · rw [pg_map (by omega)]; exact ⟨_, h.mem i (by omega), rfl⟩
  · rintro p ⟨q, hq, rfl⟩
    rw [pg_map p1, lt_mv]
    exact (h.first q hq).imp (fun e => by rw [e]) id
  · rintro p ⟨q, hq, rfl⟩
    rw [hl, pg_map (by omega), lt_mv]
    exact (h.last q hq).imp (fun e => by rw [← e]) id
  · rw [hl] at hi
    rw [pg_map (by omega), pg_map hi, lt_mv]; exact h.up i hi
  · rw [hl] at hi
    rw [pg_map (by omega), pg_map (by omega), pg_map hi, turn_mv]; exact h.bend i hi
  · rintro i hi p ⟨q, hq, rfl⟩
    rw [hl] at hi
    rw [pg_map (by omega), pg_map hi, turn_mv]; exact h.left i hi q hq
theorem ring_map (L U : List Pt) (f : Pt → Pt) : ring (L.map f) (U.map f) = (ring L U).map f := by
  unfold ring; rw [List.map_append, List.map_dropLast, List.map_dropLast]
theorem area_mv (d : Pt) (H : List Pt) : area (H.map (mv d)) = area H := by
  rw [area_from (mv d (0, 0)), area_from (0, 0) H, List.length_map]
  refine sum_congr fun i hi => ?_
  rw [pg_map hi]
  unfold nx
  rw [List.length_map, pg_map (Nat.mod_lt _ (by omega)), turn_mv]
def mag (a p : Pt) : Int := (p.1 - a.1).natAbs + (p.2 - a.2).natAbs
theorem near_line {d u : Pt} {s : Int} (hs : Sg s) (hd : Ls s d) (hu : u = (0, 0) ∨ Ls s u) (hdu : d = u ∨ Ls s (sb d u)) (h : cr d u = 0) (hne : d ≠ u) : (u.1.natAbs : Int) + u.2.natAbs < d.1.natAbs + d.2.natAbs := by
  obtain ⟨d1, d2⟩ := d
  obtain ⟨u1, u2⟩ := u
  have hdu' : Ls s (sb (d1, d2) (u1, u2)) := hdu.resolve_left hne
  unfold Ls sb at *
  unfold cr at h
  simp only [Prod.mk.injEq] at *
  have key : ∀ d1 d2 u1 u2 : Int, (0 < d1 ∨ (d1 = 0 ∧ 0 < d2)) → ((u1 = 0 ∧ u2 = 0) ∨ 0 < u1 ∨ (u1 = 0 ∧ 0 < u2)) → (0 < d1 - u1 ∨ (d1 - u1 = 0 ∧ 0 < d2 - u2)) → d1 * u2 - d2 * u1 = 0 → (u1.natAbs : Int) + u2.natAbs < d1.natAbs + d2.natAbs := by
    intro d1 d2 u1 u2 hd hu hdu h
    have h0 : 0 ≤ u1 := by omega
    have h1 : u1 ≤ d1 := by omega
    rcases Int.lt_or_le 0 d1 with hp | hp
    · have a1 : u2.natAbs ≤ d2.natAbs := by
        rcases Int.lt_or_le d2 0 with q | q
        · have m1 : d2 * u1 ≤ 0 := Int.mul_nonpos_of_nonpos_of_nonneg (by omega) h0
          have m2 : d2 * d1 ≤ d2 * u1 := Int.mul_le_mul_of_nonpos_left (by omega) h1
          have m3 : u2 ≤ 0 := by
            rcases Int.lt_or_le 0 u2 with r | r
            · have := Int.mul_pos hp r; omega
            · exact r
          have m4 : d2 ≤ u2 := by
            rcases Int.lt_or_le u2 d2 with r | r
            · have := Int.mul_lt_mul_of_pos_left r hp
              rw [Int.mul_comm d1 d2] at this; omega
            · exact r
          omega
        · have m1 : 0 ≤ d2 * u1 := Int.mul_nonneg q h0
          have m2 : d2 * u1 ≤ d2 * d1 := Int.mul_le_mul_of_nonneg_left h1 q
          have m3 : 0 ≤ u2 := by
            rcases Int.lt_or_le u2 0 with r | r
            · have := Int.mul_neg_of_pos_of_neg hp r; omega
            · exact r
          have m4 : u2 ≤ d2 := by
            rcases Int.lt_or_le d2 u2 with r | r
            · have := Int.mul_lt_mul_of_pos_left r hp
              rw [Int.mul_comm d1 d2] at this; omega
            · exact r
          omega
      by_cases e : u1 = d1
      · exfalso
        subst e
        have : u1 * (d2 - u2) = 0 := by rw [Int.mul_sub]; rw [Int.mul_comm d2 u1] at h; omega
        rcases Int.mul_eq_zero.1 this with r | r <;> omega
      · omega
    · have e1 : d1 = 0 := by omega
      have e2 : u1 = 0 := by omega
      subst e1 e2
      omega
  rcases hs with rfl | rfl
  · exact key d1 d2 u1 u2 (by omega) (by omega) (by omega) h
  · have := key (-d1) (-d2) (-u1) (-u2) (by omega) (by omega) (by omega) (by grind)
    simpa using this
theorem Nx.near {S : Pt → Prop} {a q p : Pt} (h : Nx S a q) (hp : S p) (hpq : p ≠ q) (h0 : turn a q p = 0) : mag a p < mag a q := by
  obtain ⟨s, hs, h1, _, h2⟩ := h
  rcases h2 p hp with h3 | ⟨_, h3, h4⟩
  · omega
  · have := near_line hs h1 (u := sb p a) (by
      rcases lt_tri hs a p with h5 | h5 | h5
      · exact .inr h5
      · subst h5; exact .inl (by unfold sb; simp)
      · exact absurd h5 h3) (by
      rcases lt_tri hs p q with h5 | h5 | h5
      · refine .inr ?_
        have e : sb (sb q a) (sb p a) = sb q p := by unfold sb; simp only [Prod.mk.injEq]; omega
        rw [e]; exact h5
      · exact absurd h5 hpq
      · exact absurd h5 h4) h0 (fun e => hpq (by
        obtain ⟨p1, p2⟩ := p
        obtain ⟨q1, q2⟩ := q
        unfold sb at e; simp only [Prod.mk.injEq] at e ⊢; omega))
    exact this
/-- Once the next corner is found no point takes its place. -/
theorem Nx.stays {S : Pt → Prop} {a q p : Pt} (h : Nx S a q) (hp : S p) : ¬ (turn a q p < 0 ∨ (turn a q p = 0 ∧ mag a q < mag a p)) := by
  intro h1
  have h2 := h.left hp
  rcases h1 with h1 | ⟨h1, h3⟩
  · omega
  · by_cases e : p = q
    · subst e; omega
    · have := h.near hp e h1; omega
/-- The next corner takes the place of any other point. -/
theorem Nx.takes {S : Pt → Prop} {a q x : Pt} (h : Nx S a q) (hx : S x) (hxq : x ≠ q) : turn a x q < 0 ∨ (turn a x q = 0 ∧ mag a x < mag a q) := by
  have h2 := h.left hx
  rw [turn_swap]
  rcases Int.lt_or_eq_of_le h2 with h3 | h3
  · exact .inl (by omega)
  · exact .inr ⟨by omega, h.near hx hxq h3.symm⟩
theorem box_both {a b w h : Int} (hw : 0 < w) (hh : 0 < h) {S : Pt → Prop} (hS : ∀ p, S p → a ≤ p.1 ∧ p.1 ≤ a + w ∧ b ≤ p.2 ∧ p.2 ≤ b + h) (h1 : S (a, b)) (h2 : S (a + w, b)) (h3 : S (a + w, b + h)) (h4 : S (a, b + h)) :
    Both S [(a, b), (a + w, b), (a + w, b + h)] [(a + w, b + h), (a, b + h), (a, b)] := by
  have n1 : ∀ x y : Int, 0 ≤ x → 0 ≤ y → 0 ≤ x * y := fun x y => Int.mul_nonneg
  have n2 : 0 < w * h := Int.mul_pos hw hh
  refine ⟨⟨by simp, fun i hi => ?_, fun p hp => ?_, fun p hp => ?_, fun i hi => ?_, fun i hi => ?_, fun i hi p hp => ?_⟩, ⟨by simp, fun i hi => ?_, fun p hp => ?_, fun p hp => ?_, fun i hi => ?_, fun i hi => ?_, fun i hi p hp => ?_⟩⟩
  · simp only [List.length_cons, List.length_nil] at hi
    rcases (show i = 0 ∨ i = 1 ∨ i = 2 by omega) with rfl | rfl | rfl <;> assumption
  · have := hS p hp
    obtain ⟨x, y⟩ := p
    show (x, y) = (a, b) ∨ Lt 1 (a, b) (x, y)
    unfold Lt Ls sb; simp only [Prod.mk.injEq] at *; omega
  · have := hS p hp
    obtain ⟨x, y⟩ := p
    show (x, y) = (a + w, b + h) ∨ Lt 1 (x, y) (a + w, b + h)
    unfold Lt Ls sb; simp only [Prod.mk.injEq] at *; omega
  · simp only [List.length_cons, List.length_nil] at hi
    rcases (show i = 0 ∨ i = 1 by omega) with rfl | rfl
    · show Lt 1 (a, b) (a + w, b); unfold Lt Ls sb; simp only; omega
    · show Lt 1 (a + w, b) (a + w, b + h); unfold Lt Ls sb; simp only; omega
  · simp only [List.length_cons, List.length_nil] at hi
    obtain rfl : i = 0 := by omega
    show 0 < turn (a, b) (a + w, b) (a + w, b + h)
    have : turn (a, b) (a + w, b) (a + w, b + h) = w * h := by unfold turn cr sb; grind
    omega
  · simp only [List.length_cons, List.length_nil] at hi
    have q := hS p hp
    obtain ⟨x, y⟩ := p
    simp only at q
    rcases (show i = 0 ∨ i = 1 by omega) with rfl | rfl
    · show 0 ≤ turn (a, b) (a + w, b) (x, y)
      have := n1 w (y - b) (by omega) (by omega)
      have e : turn (a, b) (a + w, b) (x, y) = w * (y - b) := by unfold turn cr sb; grind
      omega
    · show 0 ≤ turn (a + w, b) (a + w, b + h) (x, y)
      have := n1 h (a + w - x) (by omega) (by omega)
      have e : turn (a + w, b) (a + w, b + h) (x, y) = h * (a + w - x) := by unfold turn cr sb; grind
      omega
  · simp only [List.length_cons, List.length_nil] at hi
    rcases (show i = 0 ∨ i = 1 ∨ i = 2 by omega) with rfl | rfl | rfl <;> assumption
  · have := hS p hp
    obtain ⟨x, y⟩ := p
    show (x, y) = (a + w, b + h) ∨ Lt (-1) (a + w, b + h) (x, y)
    unfold Lt Ls sb; simp only [Prod.mk.injEq] at *; omega
  · have := hS p hp
    obtain ⟨x, y⟩ := p
    show (x, y) = (a, b) ∨ Lt (-1) (x, y) (a, b)
    unfold Lt Ls sb; simp only [Prod.mk.injEq] at *; omega
  · simp only [List.length_cons, List.length_nil] at hi
    rcases (show i = 0 ∨ i = 1 by omega) with rfl | rfl
    · show Lt (-1) (a + w, b + h) (a, b + h); unfold Lt Ls sb; simp only; omega
    · show Lt (-1) (a, b + h) (a, b); unfold Lt Ls sb; simp only; omega
  · simp only [List.length_cons, List.length_nil] at hi
    obtain rfl : i = 0 := by omega
    show 0 < turn (a + w, b + h) (a, b + h) (a, b)
    have : turn (a + w, b + h) (a, b + h) (a, b) = w * h := by unfold turn cr sb; grind
    omega
  · simp only [List.length_cons, List.length_nil] at hi
    have q := hS p hp
    obtain ⟨x, y⟩ := p
    simp only at q
    rcases (show i = 0 ∨ i = 1 by omega) with rfl | rfl
    · show 0 ≤ turn (a + w, b + h) (a, b + h) (x, y)
      have := n1 w (b + h - y) (by omega) (by omega)
      have e : turn (a + w, b + h) (a, b + h) (x, y) = w * (b + h - y) := by unfold turn cr sb; grind
      omega
    · show 0 ≤ turn (a, b + h) (a, b) (x, y)
      have := n1 h (x - a) (by omega) (by omega)
      have e : turn (a, b + h) (a, b) (x, y) = h * (x - a) := by unfold turn cr sb; grind
      omega
theorem box_area (a b w h : Int) : area [(a, b), (a + w, b), (a + w, b + h), (a, b + h)] = 2 * w * h := by
  rw [area_from (a, b), show [(a, b), (a + w, b), (a + w, b + h), (a, b + h)].length = 3 + 1 from rfl, sum_range, sum_range, sum_range, sum_range]
  simp [nx, pg]
  unfold turn cr sb; grind
end Go.Proofs.Ytcoffankmmjehaa.Hull
