/- Joined: PkP, PkQ, PkR, PcA, PdA, PdD, PdE, QM: contracts and plain laws, each with its own heading below. -/
import Derived.Test.YtkjfdaleamonaaaGreatPackAF
import Derived.Maps.AppendAt
import Derived.Deep.RegionLaw
import Derived.Deep.AppendLies
import Derived.Test.YtkjfdaleamonaaaGreatPackAC
import Derived.Test.YtkjfdaleamonaaaGreatProg
import Derived.Deep.CutRange
import Derived.BigRegion
import Derived.Maps.OwnSet
import Derived.WideKeyEntry
/- Plain laws of packing: level by level (the document's way), and word by word from the greatest on (the program's). -/
namespace Go.Proofs.YtkjfdaleamonaaaGreat
open Go.RowKit Go.Lib Wd

/-- A word's parent as a number. -/
def parI (v : Int) : Int := (parW v.toNat : Int)
/-- Whether all seven brothers of a word are there. -/
def kidsIn (A : List Int) (p : Int) : Bool := (kidsW (rW p.toNat) p).all fun v => A.contains v
def fullB (A : List Int) (v : Int) : Bool := decide (parE v.toNat = 0) && kidsIn A (parI v)
/-- The level above: the parents of seven. -/
def nextL (A : List Int) : List Int := setF ((A.filter fun v => fullB A v).map parI)
def doneL (A : List Int) : List Int := A.filter fun v => !fullB A v
def packN : Nat → List Int → List Int
  | 0, A => A
  | n + 1, A => doneL A ++ packN n (nextL A)
/-- What cells of a size come to, packed. -/
def packF (r : Nat) (l : List Int) : List Int := setF (packN r (setF l))

theorem sized_sub {r : Nat} {l m : List Int} (h : Sized r l) (hm : ∀ v ∈ m, v ∈ l) : Sized r m := fun v hv => h v (hm v hv)
theorem sized_set {r : Nat} {l : List Int} (h : Sized r l) : Sized r (setF l) := sized_sub h fun v hv => (setF_mem l v).1 hv
/-- What a word of a size above nought is. -/
theorem word_parts {r : Nat} {v : Int} (h : ∃ z, okB (r + 1 : Nat) z = true ∧ v = (wordN (r + 1) z : Int)) :
    parE v.toNat = 0 ∧ ∃ p, okB r p = true ∧ parI v = (wordN r p : Int) ∧ v ∈ kidsW r (wordN r p) := by
  obtain ⟨z, hz, rfl⟩ := h
  obtain ⟨hr, -⟩ := okB_parts hz
  have hp := up_ok hz
  have e := par_kid hr hp (digE_lt z)
  rw [down_up z] at e
  refine ⟨by rw [Int.toNat_natCast]; exact e.1, upE z, hp, by unfold parI; rw [Int.toNat_natCast, e.2], ?_⟩
  rw [kidsW_mem hr]
  exact ⟨digE z, digE_lt z, by rw [down_up z]⟩
theorem rW_word {r : Nat} {z : E2} (h : okB r z = true) : rW (wordN r z) = r := (word_cell h).2.1
theorem par_of {r : Nat} {p : E2} (hr : r + 1 ≤ 12) (hp : okB r p = true) {v : Int} (hv : v ∈ kidsW r (wordN r p)) : parE v.toNat = 0 ∧ parI v = (wordN r p : Int) := by
  obtain ⟨d, hd, rfl⟩ := (kidsW_mem hr v).1 hv
  have e := par_kid hr hp hd
  unfold parI
  rw [Int.toNat_natCast]
  exact ⟨e.1, by rw [e.2]⟩
theorem full_iff {r : Nat} {p : E2} (hr : r + 1 ≤ 12) (hp : okB r p = true) {A : List Int} {v : Int} (hv : v ∈ kidsW r (wordN r p)) : fullB A v = true ↔ ∀ u ∈ kidsW r (wordN r p), u ∈ A := by
  obtain ⟨e1, e2⟩ := par_of hr hp hv
  unfold fullB kidsIn
  rw [e2, Int.toNat_natCast, rW_word hp, decide_eq_true e1, Bool.true_and, List.all_eq_true]
  exact ⟨fun h u hu => List.contains_iff_mem.1 (h u hu), fun h u hu => List.contains_iff_mem.2 (h u hu)⟩
theorem next_sized {r : Nat} {A : List Int} (h : Sized (r + 1) A) : Sized r (nextL A) := fun q hq => by
  obtain ⟨v, hv, rfl⟩ := List.mem_map.1 ((setF_mem _ _).1 hq)
  obtain ⟨-, p, hp, e, -⟩ := word_parts (h v (List.mem_filter.1 hv).1)
  exact ⟨p, hp, e⟩
theorem next_mem {r : Nat} (hr : r + 1 ≤ 12) {A : List Int} (h : Sized (r + 1) A) (q : Int) : q ∈ nextL A ↔ ∃ p, okB r p = true ∧ q = (wordN r p : Int) ∧ ∀ u ∈ kidsW r (wordN r p), u ∈ A := by
  unfold nextL
  rw [setF_mem, List.mem_map]
  constructor
  · rintro ⟨v, hv, rfl⟩
    obtain ⟨h1, h2⟩ := List.mem_filter.1 hv
    obtain ⟨-, p, hp, e, hk⟩ := word_parts (h v h1)
    exact ⟨p, hp, e, (full_iff hr hp hk).1 h2⟩
  · rintro ⟨p, hp, rfl, hA⟩
    have hk : (wordN (r + 1) (downE p 0) : Int) ∈ kidsW r (wordN r p) := (kidsW_mem hr _).2 ⟨0, by omega, rfl⟩
    exact ⟨_, List.mem_filter.2 ⟨hA _ hk, (full_iff hr hp hk).2 hA⟩, (par_of hr hp hk).2⟩

/-- The program's way: a word more, from the greatest on. -/
structure Mc where
  out : List Int
  grp : List Int
  ups : List Int
def broB (a b : Int) : Bool := decide (parE a.toNat = 0) && decide (parE b.toNat = 0) && decide (parI a = parI b)
def mFlush (s : Mc) (w : Int) : Mc := if s.grp ≠ [] ∧ broB (s.grp.getD 0 0) w = false then ⟨s.out ++ s.grp, [], s.ups⟩ else s
def mStep (s : Mc) (w : Int) : Mc :=
  if (mFlush s w).grp.length + 1 = 7 then ⟨(mFlush s w).out, [], (mFlush s w).ups ++ [parI w]⟩ else ⟨(mFlush s w).out, (mFlush s w).grp ++ [w], (mFlush s w).ups⟩
/-- A block of brothers. -/
theorem m_block {r : Nat} {p : E2} (hr : r + 1 ≤ 12) (hp : okB r p = true) : ∀ (B : List Int) (s : Mc), B ≠ [] → B.length ≤ 7 → (∀ v ∈ B, v ∈ kidsW r (wordN r p)) → (s.grp = [] ∨ ∀ v ∈ B, broB (s.grp.getD 0 0) v = false) →
    B.foldl mStep s = if B.length = 7 then ⟨s.out ++ s.grp, [], s.ups ++ [(wordN r p : Int)]⟩ else ⟨s.out ++ s.grp, B, s.ups⟩ := by
  intro B
  induction B using snoc_ind with
  | h0 => intro s h; exact absurd rfl h
  | h1 B w ih =>
    intro s _ hlen hk hs
    rw [List.length_append] at hlen
    simp only [List.length_cons, List.length_nil] at hlen
    obtain ⟨w1, w2⟩ := par_of hr hp (hk w (by simp))
    rw [List.foldl_append]
    show mStep (B.foldl mStep s) w = _
    by_cases hB : B = []
    · subst hB
      have e : mFlush s w = ⟨s.out ++ s.grp, [], s.ups⟩ := by
        unfold mFlush
        rcases hs with h | h
        · rw [if_neg (by rw [h]; simp), h, List.append_nil]
          obtain ⟨a, b, c⟩ := s
          simp only at h
          subst h
          rfl
        · by_cases h0 : s.grp = []
          · rw [if_neg (by rw [h0]; simp), h0, List.append_nil]
            obtain ⟨a, b, c⟩ := s
            simp only at h0
            subst h0
            rfl
          · rw [if_pos ⟨h0, h w (by simp)⟩]
      show mStep s w = _
      unfold mStep
      rw [e]
      simp
    · have ihs := ih s hB (by omega) (fun v hv => hk v (by simp [hv])) (hs.imp id fun h v hv => h v (by simp [hv]))
      rw [ihs, if_neg (by omega)]
      have hb0 : B.getD 0 0 ∈ B := getD_mem (List.length_pos_iff.2 hB)
      obtain ⟨b1, b2⟩ := par_of hr hp (hk _ (List.mem_append_left _ hb0))
      have hbro : broB (B.getD 0 0) w = true := by
        unfold broB
        rw [decide_eq_true b1, decide_eq_true w1, b2, w2, decide_eq_true rfl]
        rfl
      have e : mFlush ⟨s.out ++ s.grp, B, s.ups⟩ w = ⟨s.out ++ s.grp, B, s.ups⟩ := by
        unfold mFlush
        rw [if_neg (by rw [hbro]; simp)]
      unfold mStep
      rw [e]
      simp only [List.length_append, List.length_cons, List.length_nil]
      by_cases h7 : B.length + 1 = 7
      · rw [if_pos h7, if_pos (by omega), w2]
      · rw [if_neg h7, if_neg (by omega)]
end Go.Proofs.YtkjfdaleamonaaaGreat
/- Plain laws of packing: one level by the program's way; the levels, one behind the other; what comes out. -/
namespace Go.Proofs.YtkjfdaleamonaaaGreat
open Go.RowKit Go.Lib Wd

/-- Falling. -/
def Dn (l : List Int) : Prop := l.Pairwise (· > ·)
theorem Dn.rev {l : List Int} (h : Dn l) : Up l.reverse := List.pairwise_reverse.2 h
theorem Up.rev {l : List Int} (h : Up l) : Dn l.reverse := List.pairwise_reverse.2 h
theorem Up.nodup {l : List Int} (h : Up l) : l.Nodup := List.nodup_iff_pairwise_ne.2 (h.imp fun h => by omega)
theorem Dn.nodup {l : List Int} (h : Dn l) : l.Nodup := List.nodup_iff_pairwise_ne.2 (h.imp fun h => by omega)
theorem kidsW_len (r : Nat) (W : Int) : (kidsW r W).length = 7 := by unfold kidsW; simp
/-- What lies among a cell's children is as many as they are just if all are there. -/
theorem kids_full {r : Nat} (hr : r + 1 ≤ 12) {p : E2} {B : List Int} (hB : Dn B) (hk : ∀ v ∈ B, v ∈ kidsW r (wordN r p)) : B.length ≤ 7 ∧ (B.length = 7 ↔ ∀ u ∈ kidsW r (wordN r p), u ∈ B) := by
  have e : B.reverse = (kidsW r (wordN r p)).filter fun v => B.contains v := by
    refine hB.rev.ext (filter_up (kids_up hr p) _) fun x => ?_
    rw [List.mem_reverse, List.mem_filter, List.contains_iff_mem]
    exact ⟨fun h => ⟨hk x h, h⟩, fun h => h.2⟩
  have hl : B.length = ((kidsW r (wordN r p)).filter fun v => B.contains v).length := by rw [← e, List.length_reverse]
  have h7 := kidsW_len r (wordN r p)
  refine ⟨by rw [hl, ← h7]; exact List.length_filter_le _ _, ?_⟩
  rw [hl, ← h7, List.length_filter_eq_length_iff]
  exact ⟨fun h u hu => List.contains_iff_mem.1 (h u hu), fun h u hu => List.contains_iff_mem.2 (h u hu)⟩
theorem par_mono {r : Nat} {u v : Int} (hu : ∃ z, okB (r + 1 : Nat) z = true ∧ u = (wordN (r + 1) z : Int)) (hv : ∃ z, okB (r + 1 : Nat) z = true ∧ v = (wordN (r + 1) z : Int)) (h : u < v) : parI u ≤ parI v := by
  have hr : r + 1 ≤ 12 := by obtain ⟨z, hz, -⟩ := hu; exact (okB_parts hz).1
  obtain ⟨-, p, hp, e1, k1⟩ := word_parts hu
  obtain ⟨-, q, hq, e2, k2⟩ := word_parts hv
  obtain ⟨d, hd, rfl⟩ := (kidsW_mem hr u).1 k1
  obtain ⟨c, hc, rfl⟩ := (kidsW_mem hr v).1 k2
  rw [e1, e2]
  rcases Nat.lt_or_ge (wordN r q) (wordN r p) with h3 | h3
  · have := kids_apart hr h3 hc hd
    omega
  · omega
theorem bro_apart {a v : Int} (h : parI a ≠ parI v) : broB a v = false := by
  unfold broB
  rw [decide_eq_false h, Bool.and_false]
/-- A word of a size above nought has a parent of the size above. -/
theorem par_sized {r : Nat} {v : Int} (h : ∃ z, okB (r + 1 : Nat) z = true ∧ v = (wordN (r + 1) z : Int)) : ∃ p, okB r p = true ∧ parI v = (wordN r p : Int) := by
  obtain ⟨-, p, hp, e, -⟩ := word_parts h
  exact ⟨p, hp, e⟩
theorem sized_unlike {r s : Nat} {v : Int} (h : ∃ z, okB r z = true ∧ v = (wordN r z : Int)) (h2 : ∃ z, okB s z = true ∧ v = (wordN s z : Int)) : r = s := by
  obtain ⟨y, hy, rfl⟩ := h
  obtain ⟨z, hz, e⟩ := h2
  exact (word_inj hy hz (by omega)).1
/-- A word of the size below is no brother. -/
theorem bro_below {r : Nat} {a v : Int} (ha : ∃ z, okB (r + 1 : Nat) z = true ∧ a = (wordN (r + 1) z : Int)) (hv : ∃ z, okB r z = true ∧ v = (wordN r z : Int)) : broB a v = false := by
  obtain ⟨p, hp, e⟩ := par_sized ha
  cases r with
  | zero =>
    obtain ⟨z, hz, rfl⟩ := hv
    obtain ⟨a1, a2, -⟩ := word_cell hz
    unfold broB parE
    rw [Int.toNat_natCast, if_pos a1, if_pos a2]
    simp
  | succ s =>
    obtain ⟨q, hq, e2⟩ := par_sized hv
    refine bro_apart fun h => ?_
    rw [e, e2] at h
    have := (word_inj hp hq (by omega)).1
    omega
/-- A list that falls, parted behind the first one's brothers. -/
theorem split_bro {r : Nat} {w : Int} {A : List Int} (hA : Dn (w :: A)) (hs : Sized (r + 1) (w :: A)) :
    ∃ B A', w :: A = (w :: B) ++ A' ∧ (∀ v ∈ w :: B, parI v = parI w) ∧ ∀ v ∈ A', parI v < parI w := by
  refine ⟨A.takeWhile fun v => decide (parI v = parI w), A.dropWhile fun v => decide (parI v = parI w), by rw [List.cons_append, List.takeWhile_append_dropWhile], fun v hv => ?_, fun v hv => ?_⟩
  · rcases List.mem_cons.1 hv with rfl | hv
    · rfl
    · exact of_decide_eq_true (List.all_eq_true.1 (List.all_takeWhile (l := A) (p := fun v => decide (parI v = parI w))) v hv)
  · have hsuf : (A.dropWhile fun v => decide (parI v = parI w)).Sublist A := List.dropWhile_sublist _
    obtain ⟨hw, hA2⟩ := List.pairwise_cons.1 hA
    have hd : Dn (A.dropWhile fun v => decide (parI v = parI w)) := hA2.sublist hsuf
    have hmem : ∀ u ∈ A.dropWhile (fun v => decide (parI v = parI w)), u ∈ A := fun u hu => hsuf.subset hu
    cases hc : A.dropWhile fun v => decide (parI v = parI w) with
    | nil => rw [hc] at hv; cases hv
    | cons x X =>
      have hx : parI x ≠ parI w := fun e => by
        have h1 := List.head_dropWhile_not (fun v => decide (parI v = parI w)) (l := A) (by rw [hc]; simp)
        simp only [hc, List.head_cons, decide_eq_false_iff_not] at h1
        exact h1 e
      have hxA : x ∈ A := hmem x (by rw [hc]; simp)
      have hxw : parI x < parI w := by
        have h1 := par_mono (hs x (by simp [hxA])) (hs w (by simp)) (hw x hxA)
        omega
      rw [hc] at hv hd
      rcases List.mem_cons.1 hv with rfl | hv
      · exact hxw
      · have hvA : v ∈ A := hmem v (by rw [hc]; simp [hv])
        have h1 := par_mono (hs v (by simp [hvA])) (hs x (by simp [hxA])) ((List.pairwise_cons.1 hd).1 v hv)
        omega
theorem next_nil : nextL [] = [] := by
  have : ∀ x, x ∈ nextL [] → False := fun x hx => by
    obtain ⟨v, hv, -⟩ := List.mem_map.1 ((setF_mem _ _).1 hx)
    cases (List.mem_filter.1 hv).1
  exact List.eq_nil_iff_forall_not_mem.2 fun x hx => this x hx
/-- One level, from the greatest word on. -/
theorem m_level {r : Nat} (hr : r + 1 ≤ 12) : ∀ (n : Nat) (A : List Int), A.length = n → ∀ s : Mc, Dn A → Sized (r + 1) A → (s.grp = [] ∨ ∀ v ∈ A, broB (s.grp.getD 0 0) v = false) →
    ∃ U, (A.foldl mStep s).ups = s.ups ++ U ∧ Dn U ∧ (∀ q, q ∈ U ↔ q ∈ nextL A) ∧ (((A.foldl mStep s).out ++ (A.foldl mStep s).grp).Perm (s.out ++ s.grp ++ doneL A)) ∧ (A ≠ [] → Sized (r + 1) (A.foldl mStep s).grp) := by
  intro n
  induction n using Nat.strongRecOn with
  | _ n ih =>
    intro A hn s hA hs hg
    cases A with
    | nil => exact ⟨[], by simp, List.Pairwise.nil, fun q => by rw [next_nil], by rw [show doneL [] = [] from rfl]; simp, fun h => absurd rfl h⟩
    | cons w A0 =>
      obtain ⟨B0, A', hAB, hB, hA'⟩ := split_bro hA hs
      obtain ⟨-, p, hp, ep, hkw⟩ := word_parts (hs w (by simp))
      rw [hAB] at hA hs hg hn ⊢
      generalize hBB : w :: B0 = B at *
      have hBne : B ≠ [] := by rw [← hBB]; simp
      have hB0 : B.getD 0 0 = w := by rw [← hBB]; rfl
      obtain ⟨hdB, hdA, -⟩ := List.pairwise_append.1 hA
      have hsB : ∀ v ∈ B, v ∈ kidsW r (wordN r p) := fun v hv => by
        obtain ⟨-, q, hq, eq, hk⟩ := word_parts (hs v (List.mem_append_left _ hv))
        have : wordN r q = wordN r p := by have := hB v hv; omega
        rw [← this]; exact hk
      have hsA : Sized (r + 1) A' := fun v hv => hs v (List.mem_append_right _ hv)
      obtain ⟨h7, hfull⟩ := kids_full hr hdB hsB
      have hblk := m_block hr hp B s hBne h7 hsB (hg.imp id fun h v hv => h v (List.mem_append_left _ hv))
      have hlen : A'.length < n := by rw [← hn, List.length_append]; have := List.length_pos_iff.2 hBne; omega
      have hkid : ∀ v ∈ A', ∀ q, okB r q = true → v ∈ kidsW r (wordN r q) → ∀ u ∈ kidsW r (wordN r q), u ∈ B ++ A' → u ∈ A' := fun v hv q hq hvq u hu hm => by
        rcases List.mem_append.1 hm with h | h
        · exfalso
          have e1 := (par_of hr hq hvq).2
          have e2 := (par_of hr hq hu).2
          have e3 := hB u h
          have e4 := hA' v hv
          omega
        · exact h
      have hmB : (∀ u ∈ kidsW r (wordN r p), u ∈ B ++ A') ↔ B.length = 7 := by
        rw [hfull]
        refine ⟨fun h u hu => ?_, fun h u hu => List.mem_append_left _ (h u hu)⟩
        rcases List.mem_append.1 (h u hu) with h1 | h1
        · exact h1
        · exfalso
          have e1 := (par_of hr hp hu).2
          have e2 := hA' u h1
          omega
      have hdA' : A'.filter (fun v => !fullB (B ++ A') v) = doneL A' := by
        unfold doneL
        refine List.filter_congr fun v hv => ?_
        obtain ⟨-, q, hq, eq, hk⟩ := word_parts (hsA v hv)
        have h1 := full_iff hr hq (A := B ++ A') hk
        have h2 := full_iff hr hq (A := A') hk
        have : fullB (B ++ A') v = fullB A' v := by
          rw [Bool.eq_iff_iff, h1, h2]
          exact ⟨fun h u hu => hkid v hv q hq hk u hu (h u hu), fun h u hu => List.mem_append_right _ (h u hu)⟩
        rw [this]
      have hdBd : B.filter (fun v => !fullB (B ++ A') v) = if B.length = 7 then [] else B := by
        split
        · next h =>
          refine List.filter_eq_nil_iff.2 fun v hv => ?_
          rw [(full_iff hr hp (hsB v hv)).2 (hmB.2 h)]
          simp
        · next h =>
          refine List.filter_eq_self.2 fun v hv => ?_
          have : fullB (B ++ A') v ≠ true := fun h2 => h (hmB.1 ((full_iff hr hp (hsB v hv)).1 h2))
          simpa using this
      have hdone : doneL (B ++ A') = (if B.length = 7 then [] else B) ++ doneL A' := by
        rw [← hdA', ← hdBd]
        unfold doneL
        rw [List.filter_append]
      have hnext : ∀ q, q ∈ nextL (B ++ A') ↔ (q = (wordN r p : Int) ∧ B.length = 7) ∨ q ∈ nextL A' := fun q => by
        rw [next_mem hr hs, next_mem hr hsA]
        constructor
        · rintro ⟨z, hz, rfl, h⟩
          by_cases e : wordN r z = wordN r p
          · left
            refine ⟨by rw [e], hmB.1 (by rw [← e]; exact h)⟩
          · right
            refine ⟨z, hz, rfl, fun u hu => ?_⟩
            rcases List.mem_append.1 (h u hu) with h1 | h1
            · exfalso
              have e1 := (par_of hr hz hu).2
              have e2 := hB u h1
              omega
            · exact h1
        · rintro (⟨rfl, h⟩ | ⟨z, hz, rfl, h⟩)
          · exact ⟨p, hp, rfl, hmB.2 h⟩
          · exact ⟨z, hz, rfl, fun u hu => List.mem_append_right _ (h u hu)⟩
      have hlow : ∀ q ∈ nextL A', q < (wordN r p : Int) := fun q hq => by
        obtain ⟨v, hv, rfl⟩ := List.mem_map.1 ((setF_mem _ _).1 hq)
        have := hA' v (List.mem_filter.1 hv).1
        omega
      rw [List.foldl_append, hblk]
      by_cases hl : B.length = 7
      · rw [if_pos hl] at hdone ⊢
        obtain ⟨U, u1, u2, u3, u4, u5⟩ := ih _ hlen A' rfl ⟨s.out ++ s.grp, [], s.ups ++ [(wordN r p : Int)]⟩ hdA hsA (.inl rfl)
        refine ⟨(wordN r p : Int) :: U, by rw [u1]; simp, List.pairwise_cons.2 ⟨fun q hq => hlow q ((u3 q).1 hq), u2⟩, fun q => by rw [List.mem_cons, hnext, u3]; simp [hl], by rw [hdone]; simpa using u4, fun _ => ?_⟩
        by_cases hA0 : A' = []
        · subst hA0; intro v hv; cases hv
        · exact u5 hA0
      · rw [if_neg hl] at hdone ⊢
        obtain ⟨U, u1, u2, u3, u4, u5⟩ := ih _ hlen A' rfl ⟨s.out ++ s.grp, B, s.ups⟩ hdA hsA (.inr fun v hv => by
          show broB (B.getD 0 0) v = false
          rw [hB0]
          exact bro_apart (by have := hA' v hv; omega))
        refine ⟨U, u1, u2, fun q => by rw [hnext, u3]; simp [hl], by rw [hdone]; simpa [List.append_assoc] using u4, fun _ => ?_⟩
        by_cases hA0 : A' = []
        · subst hA0; exact fun v hv => hs v (List.mem_append_left _ hv)
        · exact u5 hA0
/-- At size nought nothing has a brother. -/
theorem m_base : ∀ (A : List Int) (s : Mc), Sized 0 A → (s.grp = [] ∨ ∀ v ∈ A, broB (s.grp.getD 0 0) v = false) → s.grp.length < 7 →
    (A.foldl mStep s).ups = s.ups ∧ (A.foldl mStep s).out ++ (A.foldl mStep s).grp = s.out ++ s.grp ++ A
  | [], s, _, _, _ => ⟨rfl, by simp⟩
  | w :: A, s, hs, hg, hl => by
    have e0 : ∀ v : Int, broB w v = false := fun v => by
      obtain ⟨z, hz, rfl⟩ := hs w (by simp)
      obtain ⟨a1, a2, -⟩ := word_cell hz
      unfold broB parE
      rw [Int.toNat_natCast, if_pos a1, if_pos a2]
      simp
    have e : mStep s w = ⟨s.out ++ s.grp, [w], s.ups⟩ := by
      have e1 : mFlush s w = ⟨s.out ++ s.grp, [], s.ups⟩ := by
        unfold mFlush
        by_cases h0 : s.grp = []
        · rw [if_neg (by simp [h0])]
          obtain ⟨o, g, u⟩ := s
          simp only at h0
          subst h0
          simp
        · rw [if_pos ⟨h0, (hg.resolve_left h0) w (by simp)⟩]
      unfold mStep
      rw [e1]
      simp
    rw [List.foldl_cons, e]
    obtain ⟨h1, h2⟩ := m_base A ⟨s.out ++ s.grp, [w], s.ups⟩ (fun v hv => hs v (by simp [hv])) (.inr fun v _ => e0 v) (by simp)
    exact ⟨h1, by rw [h2]; simp⟩
end Go.Proofs.YtkjfdaleamonaaaGreat
/- Plain laws of packing: the levels, one behind the other; the program's run over a heap of words. -/
namespace Go.Proofs.YtkjfdaleamonaaaGreat
open Go.RowKit Go.Lib Wd

theorem m_len1 {s : Mc} (h : s.grp.length < 7) (w : Int) : (mStep s w).grp.length < 7 := by
  have h1 : (mFlush s w).grp.length < 7 := by
    unfold mFlush
    split
    · simp
    · exact h
  unfold mStep
  split
  · simp
  · simp only [List.length_append, List.length_cons, List.length_nil]; omega
theorem m_len : ∀ (A : List Int) {s : Mc}, s.grp.length < 7 → (A.foldl mStep s).grp.length < 7
  | [], _, h => h
  | w :: A, _, h => m_len A (m_len1 h w)
def resM : Nat → List Int → Mc → List Int
  | 0, A, s => (A.foldl mStep s).out ++ (A.foldl mStep s).grp
  | r + 1, A, s => resM r (A.foldl mStep s).ups ⟨(A.foldl mStep s).out, (A.foldl mStep s).grp, []⟩
theorem full_congr {A B : List Int} (h : ∀ x, x ∈ A ↔ x ∈ B) (v : Int) : fullB A v = fullB B v := by
  unfold fullB kidsIn
  congr 1
  rw [Bool.eq_iff_iff, List.all_eq_true, List.all_eq_true]
  exact ⟨fun k u hu => List.contains_iff_mem.2 ((h u).1 (List.contains_iff_mem.1 (k u hu))), fun k u hu => List.contains_iff_mem.2 ((h u).2 (List.contains_iff_mem.1 (k u hu)))⟩
theorem done_rev (X : List Int) : (doneL X.reverse).Perm (doneL X) := by
  unfold doneL
  rw [List.filter_congr (fun v _ => by rw [full_congr (B := X) (fun x => List.mem_reverse)] : ∀ v ∈ X.reverse, (!fullB X.reverse v) = !fullB X v), List.filter_reverse]
  exact List.reverse_perm _
theorem getD0_mem {l : List Int} (h : l ≠ []) : l.getD 0 0 ∈ l := getD_mem (List.length_pos_iff.2 h)
theorem resM_perm : ∀ (r : Nat) (X : List Int) (s : Mc), r ≤ 12 → Up X → Sized r X → s.ups = [] → (s.grp = [] ∨ ∀ v ∈ X, broB (s.grp.getD 0 0) v = false) → s.grp.length < 7 → (resM r X.reverse s).Perm (s.out ++ s.grp ++ packN r X)
  | 0, X, s, _, _, hs, _, hg, hl => by
    have h := (m_base X.reverse s (fun v hv => hs v (by simpa using hv)) (hg.imp id fun h v hv => h v (by simpa using hv)) hl).2
    show (_ ++ _ : List Int).Perm _
    rw [h]
    exact List.Perm.append_left _ (List.reverse_perm X)
  | r + 1, X, s, hr, hX, hs, hu, hg, hl => by
    have hsr : Sized (r + 1) X.reverse := fun v hv => hs v (by simpa using hv)
    obtain ⟨U, u1, u2, u3, u4, u5⟩ := m_level hr _ X.reverse rfl s hX.rev hsr (hg.imp id fun h v hv => h v (by simpa using hv))
    have hUe : U = (nextL X).reverse := by
      have e : U.reverse = nextL X := u2.rev.ext (setF_up _) fun x => by
        rw [List.mem_reverse, u3, next_mem hr hsr, next_mem hr hs]
        simp only [List.mem_reverse]
      rw [← e, List.reverse_reverse]
    have hlen := m_len X.reverse hl
    have hgr : (X.reverse.foldl mStep s).grp = [] ∨ ∀ v ∈ nextL X, broB ((X.reverse.foldl mStep s).grp.getD 0 0) v = false := by
      by_cases h0 : (X.reverse.foldl mStep s).grp = []
      · exact .inl h0
      · right
        intro v hv
        have hX0 : X.reverse ≠ [] := fun e => by
          have : X = [] := by simpa using e
          rw [this, next_nil] at hv
          cases hv
        exact bro_below (u5 hX0 _ (getD0_mem h0)) (next_sized hs v hv)
    have ih := resM_perm r (nextL X) ⟨(X.reverse.foldl mStep s).out, (X.reverse.foldl mStep s).grp, []⟩ (by omega) (setF_up _) (next_sized hs) rfl hgr hlen
    show (resM r (X.reverse.foldl mStep s).ups ⟨(X.reverse.foldl mStep s).out, (X.reverse.foldl mStep s).grp, []⟩).Perm _
    rw [u1, hu, List.nil_append, hUe]
    refine ih.trans ?_
    show ((X.reverse.foldl mStep s).out ++ (X.reverse.foldl mStep s).grp ++ packN r (nextL X)).Perm (s.out ++ s.grp ++ (doneL X ++ packN r (nextL X)))
    rw [← List.append_assoc (s.out ++ s.grp)]
    exact (u4.trans (List.Perm.append_left _ (done_rev X))).append_right _
theorem packN_sized : ∀ (r : Nat) (X : List Int), Sized r X → ∀ v ∈ packN r X, ∃ k : Nat, k ≤ r ∧ ∃ z, okB k z = true ∧ v = (wordN k z : Int)
  | 0, X, hs, v, hv => ⟨0, by omega, hs v hv⟩
  | r + 1, X, hs, v, hv => by
    rcases List.mem_append.1 hv with h | h
    · exact ⟨r + 1, by omega, hs v (List.mem_filter.1 h).1⟩
    · obtain ⟨k, hk, h2⟩ := packN_sized r _ (next_sized hs) v h
      exact ⟨k, by omega, h2⟩
theorem packN_nodup : ∀ (r : Nat) (X : List Int), Sized r X → X.Nodup → (packN r X).Nodup
  | 0, _, _, h => h
  | r + 1, X, hs, h => by
    refine List.nodup_append.2 ⟨h.filter _, packN_nodup r _ (next_sized hs) (Up.nodup (setF_up _)), fun a ha b hb e => ?_⟩
    subst e
    obtain ⟨k, hk, h2⟩ := packN_sized r _ (next_sized hs) a hb
    have := sized_unlike (hs a (List.mem_filter.1 ha).1) h2
    omega
theorem srt_perm {l m : List Int} (h : l.Perm m) (hn : m.Nodup) : srt l = setF m := by
  have hp : (srt l).Perm m := (List.mergeSort_perm _ _).trans h
  have hnd : (srt l).Nodup := hp.nodup_iff.2 hn
  have hup : Up (srt l) := (List.Pairwise.and (srt_sorted l) (List.nodup_iff_pairwise_ne.1 hnd)).imp fun h => by omega
  exact hup.ext (setF_up m) fun x => by rw [setF_mem]; exact hp.mem_iff
/-- What the run comes to, sorted. -/
theorem pack_end {r : Nat} (hr : r ≤ 12) {l : List Int} (hs : Sized r l) {R : List Int} (h : resM r (setF l).reverse ⟨[], [], []⟩ = R) : srt R = packF r l := by
  have hss := sized_set hs
  have hp := resM_perm r (setF l) ⟨[], [], []⟩ hr (setF_up l) hss rfl (.inl rfl) (by simp)
  rw [h] at hp
  exact srt_perm hp (packN_nodup r _ hss (Up.nodup (setF_up l)))

/-- The program's run: what is out, the group, the words in the heap. -/
def Run (R0 : List Int) (o g M : List Int) : Prop :=
  ∃ (r : Nat) (s0 : Mc) (P A u : List Int), r ≤ 12 ∧ s0.ups = [] ∧ Sized r (P ++ A) ∧ Dn (P ++ A) ∧ (s0.grp = [] ∨ Sized (r + 1) s0.grp) ∧ s0.grp.length < 7 ∧ P.foldl mStep s0 = ⟨o, g, u⟩ ∧ M.Perm (A ++ u) ∧ resM r (P ++ A) s0 = R0
theorem run_start {r : Nat} (hr : r ≤ 12) {l M : List Int} (hs : Sized r l) (hM : M.Perm (setF l).reverse) : Run (resM r (setF l).reverse ⟨[], [], []⟩) [] [] M :=
  ⟨r, ⟨[], [], []⟩, [], (setF l).reverse, [], hr, rfl, fun v hv => sized_set hs v (by simpa using hv), (setF_up l).rev, .inl rfl, by simp, rfl, by simpa using hM, rfl⟩
theorem s0_free {r : Nat} {g : List Int} {X : List Int} (hs : Sized r X) (h : g = [] ∨ Sized (r + 1) g) : g = [] ∨ ∀ v ∈ X, broB (g.getD 0 0) v = false := by
  by_cases h0 : g = []
  · exact .inl h0
  · exact .inr fun v hv => bro_below ((h.resolve_left h0) _ (getD0_mem h0)) (hs v hv)
/-- What has been pushed. -/
theorem run_ups {r : Nat} {s0 : Mc} {P o g u : List Int} (hr : r ≤ 12) (h0 : s0.ups = []) (hs : Sized r P) (hd : Dn P) (hg : s0.grp = [] ∨ Sized (r + 1) s0.grp) (hl : s0.grp.length < 7) (he : P.foldl mStep s0 = ⟨o, g, u⟩) :
    (r = 0 ∧ u = []) ∨ ∃ q, r = q + 1 ∧ Sized q u ∧ Dn u ∧ (P ≠ [] → Sized r g) := by
  cases r with
  | zero =>
    left
    have := (m_base P s0 hs (s0_free hs hg) hl).1
    rw [he, h0] at this
    exact ⟨rfl, this⟩
  | succ q =>
    right
    obtain ⟨U, u1, u2, u3, u4, u5⟩ := m_level hr _ P rfl s0 hd hs (s0_free hs hg)
    rw [he, h0] at u1
    have e : u = U := by simpa using u1
    rw [he] at u5
    subst e
    exact ⟨q, rfl, fun v hv => next_sized hs v ((u3 v).1 hv), u2, u5⟩
theorem size_less {q : Nat} {v w : Int} (hv : ∃ z, okB q z = true ∧ v = (wordN q z : Int)) (hw : ∃ z, okB (q + 1 : Nat) z = true ∧ w = (wordN (q + 1) z : Int)) : v < w := by
  obtain ⟨y, hy, rfl⟩ := hv
  obtain ⟨z, hz, rfl⟩ := hw
  have h1 := (word_cell hy).2.1
  have h2 := (word_cell hz).2.1
  have l1 := wordN_lt hy
  have l2 := wordN_lt hz
  unfold rW at h1 h2
  omega
theorem flush_ups (o g u : List Int) (w : Int) : mFlush ⟨o, g, u⟩ w = ⟨(mFlush ⟨o, g, []⟩ w).out, (mFlush ⟨o, g, []⟩ w).grp, u⟩ := by
  unfold mFlush
  split <;> rfl
/-- One word more is taken from the heap, the greatest. -/
theorem run_step {R0 o g M M' : List Int} {w : Int} (h : Run R0 o g M) (hM : M.Perm (w :: M')) (hw : ∀ x ∈ M, x ≤ w) :
    (∃ k : Nat, k ≤ 12 ∧ ∃ z, okB k z = true ∧ w = (wordN k z : Int)) ∧ g.length < 7 ∧
    ((mFlush ⟨o, g, []⟩ w).grp.length + 1 = 7 → Run R0 (mFlush ⟨o, g, []⟩ w).out [] (parI w :: M')) ∧
    ((mFlush ⟨o, g, []⟩ w).grp.length + 1 ≠ 7 → Run R0 (mFlush ⟨o, g, []⟩ w).out ((mFlush ⟨o, g, []⟩ w).grp ++ [w]) M') := by
  -- first with a word of this level at hand
  have key : ∀ (r : Nat) (s0 : Mc) (P A u : List Int), r ≤ 12 → s0.ups = [] → Sized r (P ++ w :: A) → Dn (P ++ w :: A) → (s0.grp = [] ∨ Sized (r + 1) s0.grp) → s0.grp.length < 7 → P.foldl mStep s0 = ⟨o, g, u⟩ → M'.Perm (A ++ u) → resM r (P ++ w :: A) s0 = R0 →
      (∃ k : Nat, k ≤ 12 ∧ ∃ z, okB k z = true ∧ w = (wordN k z : Int)) ∧ g.length < 7 ∧
      ((mFlush ⟨o, g, []⟩ w).grp.length + 1 = 7 → Run R0 (mFlush ⟨o, g, []⟩ w).out [] (parI w :: M')) ∧
      ((mFlush ⟨o, g, []⟩ w).grp.length + 1 ≠ 7 → Run R0 (mFlush ⟨o, g, []⟩ w).out ((mFlush ⟨o, g, []⟩ w).grp ++ [w]) M') := by
    intro r s0 P A u hr h0 hs hd hg hl he hp hR
    have hgl : g.length < 7 := by have := m_len P hl; rwa [he] at this
    have e2 : (P ++ [w]).foldl mStep s0 = mStep ⟨o, g, u⟩ w := by rw [List.foldl_append, he]; rfl
    have e3 : P ++ w :: A = (P ++ [w]) ++ A := by simp
    refine ⟨⟨r, hr, hs w (by simp)⟩, hgl, fun h7 => ?_, fun h7 => ?_⟩
    · rw [e3] at hs hd hR
      refine ⟨r, s0, P ++ [w], A, u ++ [parI w], hr, h0, hs, hd, hg, hl, ?_, ?_, hR⟩
      · rw [e2]; unfold mStep; rw [flush_ups, if_pos h7]
      · refine (List.Perm.cons _ hp).trans ?_
        rw [← List.append_assoc]
        exact List.perm_append_comm (l₁ := [parI w])
    · rw [e3] at hs hd hR
      refine ⟨r, s0, P ++ [w], A, u, hr, h0, hs, hd, hg, hl, ?_, hp, hR⟩
      rw [e2]; unfold mStep; rw [flush_ups, if_neg h7]
  obtain ⟨r, s0, P, A, u, hr, h0, hs, hd, hg, hl, he, hp, hR⟩ := h
  have hsP : Sized r P := fun v hv => hs v (List.mem_append_left _ hv)
  have hdP : Dn P := (List.pairwise_append.1 hd).1
  have hup := run_ups hr h0 hsP hdP hg hl he
  have hwM : w ∈ A ++ u := hp.subset (hM.symm.subset (by simp))
  cases A with
  | cons x A =>
    have hxw : x = w := by
      have h1 : x ≤ w := hw x (hp.symm.subset (by simp))
      rcases List.mem_append.1 hwM with h2 | h2
      · rcases List.mem_cons.1 h2 with e | h2
        · exact e.symm
        · have := (List.pairwise_cons.1 (List.pairwise_append.1 hd).2.1).1 w h2; omega
      · exfalso
        rcases hup with ⟨-, e⟩ | ⟨q, rfl, h3, -⟩
        · rw [e] at h2; cases h2
        · have := size_less (h3 w h2) (hs x (by simp)); omega
    subst hxw
    refine key r s0 P A u hr h0 hs hd hg hl he ?_ hR
    exact (hM.symm.trans hp).cons_inv
  | nil =>
    rw [List.nil_append] at hp hwM
    rw [List.append_nil] at hR
    rcases hup with ⟨-, e⟩ | ⟨q, rfl, h3, h4, h5⟩
    · rw [e] at hwM; cases hwM
    · cases u with
      | nil => cases hwM
      | cons x u =>
        have hxw : x = w := by
          have h1 : x ≤ w := hw x (hp.symm.subset (by simp))
          rcases List.mem_cons.1 hwM with e | h2
          · exact e.symm
          · have := (List.pairwise_cons.1 h4).1 w h2; omega
        subst hxw
        have hgl : g.length < 7 := by have := m_len P hl; rwa [he] at this
        have hPne : P ≠ [] := fun e => by
          rw [e] at he
          have e2 : s0 = ⟨o, g, x :: u⟩ := he
          rw [e2] at h0
          cases h0
        refine key q ⟨o, g, []⟩ [] u [] (by omega) rfl h3 h4 (.inr (h5 hPne)) hgl rfl ?_ ?_
        · rw [List.append_nil]; exact (hM.symm.trans hp).cons_inv
        · rw [← hR]
          show _ = resM q (P.foldl mStep s0).ups _
          rw [he]
          rfl
theorem run_end {R0 o g : List Int} (h : Run R0 o g []) : R0 = o ++ g := by
  obtain ⟨r, s0, P, A, u, hr, h0, hs, hd, hg, hl, he, hp, hR⟩ := h
  have h2 : A ++ u = [] := List.Perm.eq_nil hp.symm
  obtain ⟨rfl, rfl⟩ := List.append_eq_nil_iff.1 h2
  rw [List.append_nil] at hR
  rw [← hR]
  have fin : ∀ q (o g : List Int), resM q [] ⟨o, g, []⟩ = o ++ g := fun q => by
    induction q with
    | zero => intro o g; rfl
    | succ q ih => intro o g; exact ih o g
  cases r with
  | zero => show (P.foldl mStep s0).out ++ _ = _; rw [he]
  | succ q =>
    show resM q (P.foldl mStep s0).ups ⟨(P.foldl mStep s0).out, (P.foldl mStep s0).grp, []⟩ = _
    rw [he]
    exact fin q o g
end Go.Proofs.YtkjfdaleamonaaaGreat
/- Contracts of ident.Ok, pack.brothers, pack.alike. -/
namespace Go.Proofs.YtkjfdaleamonaaaGreat
open Go.RowKit Go.Lib Wd

set_option maxRecDepth 100000 in
set_option maxHeartbeats 4000000 in
theorem iok_any (w0 : Nat) (hw : w0 < 18446744073709551616) (w : World) : Calls Tryz.prog 88 #[.int .u64 w0] w fun e w' => e = .returned (.bool (isW w0)) ∧ Below w.heap.size w w' := by
  have HC := Lib.hid (cell_any w0 hw)
  have HR : (cvE w0 = 0 ∧ isW w0 = true) ∨ (cvE w0 = 5 ∧ isW w0 = false) := by
    unfold cvE
    by_cases h : isW w0 = true
    · exact .inl ⟨by rw [if_pos h], h⟩
    · exact .inr ⟨by rw [if_neg h], by simpa using h⟩
  rcases HR with ⟨e1, e2⟩ | ⟨e1, e2⟩
  all_goals
    rw [e2]
    rw [e1] at HC
    generalize cvR w0 = r at *
    generalize cvZ w0 = z at *
    clear e1 e2
    simp only [vC] at *
    go_enter Tryz.func88, Tryz.ntmps88
    go_wp2_with fail
    refine (HC.out _).mono ?_
    rintro e w1 ⟨rfl, hb1⟩
    have B1 : Hid (Below w.heap.size w (w1.alloc (.cells #[.int .i64 r, .int .i64 z.1, .int .i64 z.2] 32))) := hb1.alloc hb1.size _
    clear hb1
    go_wp2
    go_ret
    exact ⟨rfl, B1.out⟩
set_option maxRecDepth 100000 in
set_option maxHeartbeats 4000000 in
theorem bro_any (a b : Nat) (ha : a < 18446744073709551616) (hb : b < 18446744073709551616) (w : World) : Calls Tryz.prog 58 #[.int .u64 a, .int .u64 b] w fun e w' => e = .returned (.bool (broB a b)) ∧ Below w.heap.size w w' := by
  have HA := Lib.hid (ipar_any a ha)
  have HB := Lib.hid (ipar_any b hb)
  have key : ∃ (ea eb : Int) (p q : Nat), parE a = ea ∧ parE b = eb ∧ parW a = p ∧ parW b = q := ⟨_, _, _, _, rfl, rfl, rfl, rfl⟩
  obtain ⟨ea, eb, p, q, h1, h2, h3, h4⟩ := key
  have hres : broB a b = (decide (ea = 0) && decide (eb = 0) && decide ((p : Int) = (q : Int))) := by
    unfold broB parI
    rw [Int.toNat_natCast, Int.toNat_natCast, h1, h2, h3, h4]
  rw [h1, h3] at HA
  rw [h2, h4] at HB
  rw [hres]
  clear hres h1 h2 h3 h4
  by_cases qa : ea = 0
  · subst qa
    by_cases qb : eb = 0
    · subst qb
      obtain ⟨o, ho⟩ : ∃ o, decide ((p : Int) = (q : Int)) = o := ⟨_, rfl⟩
      have ho2 : ((p : Int) == (q : Int)) = o := by rw [← ho]; rfl
      have ho3 : decide (p = q) = o := by rw [← ho]; exact decide_eq_decide.2 (by omega)
      have HO : Hid ((decide ((0 : Int) = 0) && decide ((0 : Int) = 0) && decide ((p : Int) = (q : Int))) = o) := by show _ = _; rw [ho]; simp
      rw [HO.out]
      cases o
      all_goals
        clear ho ho3
        go_enter Tryz.func58, Tryz.ntmps58
        go_wp2_with fail
        refine (HA.out _).mono ?_
        rintro e w1 ⟨rfl, hb1⟩
        have B1 := Lib.hid hb1
        clear hb1
        go_wp2_with fail
        refine (HB.out _).mono ?_
        rintro e w2 ⟨rfl, hb2⟩
        have B2 := Lib.hid (B1.out.trans (hb2.mono B1.out.size))
        clear hb2
        go_wp2
        go_ret
        exact ⟨rfl, B2.out⟩
    · have q1 : (eb == 0) = false := by simp [qb]
      have HO : Hid ((decide ((0 : Int) = 0) && decide (eb = 0) && decide ((p : Int) = (q : Int))) = false) := by show _ = _; simp [qb]
      rw [HO.out]
      clear qb
      go_enter Tryz.func58, Tryz.ntmps58
      go_wp2_with fail
      refine (HA.out _).mono ?_
      rintro e w1 ⟨rfl, hb1⟩
      have B1 := Lib.hid hb1
      clear hb1
      go_wp2_with fail
      refine (HB.out _).mono ?_
      rintro e w2 ⟨rfl, hb2⟩
      have B2 := Lib.hid (B1.out.trans (hb2.mono B1.out.size))
      clear hb2
      go_wp2
      go_ret
      exact ⟨rfl, B2.out⟩
  · have q1 : (ea == 0) = false := by simp [qa]
    have HO : Hid ((decide (ea = 0) && decide (eb = 0) && decide ((p : Int) = (q : Int))) = false) := by show _ = _; simp [qa]
    rw [HO.out]
    clear qa
    go_enter Tryz.func58, Tryz.ntmps58
    go_wp2_with fail
    refine (HA.out _).mono ?_
    rintro e w1 ⟨rfl, hb1⟩
    have B1 := Lib.hid hb1
    clear hb1
    go_wp2_with fail
    refine (HB.out _).mono ?_
    rintro e w2 ⟨rfl, hb2⟩
    have B2 := Lib.hid (B1.out.trans (hb2.mono B1.out.size))
    clear hb2
    go_wp2
    go_ret
    exact ⟨rfl, B2.out⟩
/-- Whether all are words; what is told of a list of words. -/
def allW (l : List Int) : Bool := l.all fun v => isW v.toNat
def alkE (l : List Int) : Int := if allW l = true then chkF (resW (l.getD 0 0).toNat) l else 5
set_option maxRecDepth 100000 in
set_option maxHeartbeats 4000000 in
theorem alike_any (ao : Option Addr) (c : Nat) (l : List Int) (w : World) (B : Nat) (h : WordsAt w B ao l) (hB : B ≤ w.heap.size) (hn : l.length ≤ 1000000000) (h0 : 0 < l.length) (h64 : In64 l) :
    Calls Tryz.prog 53 #[.slice ao l.length c] w fun e w' => e = .returned (.int .i64 (alkE l)) ∧ Below w.heap.size w w' := by
  have HCK := Lib.hid (fun wr hb => check_any ao c l (resW (l.getD 0 0).toNat) wr B (h.below (C := w.heap.size) hb hB) (Nat.le_trans hB (Below.size hb)) hn h64)
  have HIR := Lib.hid (ires_any (l.getD 0 0).toNat (by have := h64 _ (getD_mem h0); omega))
  have HV0 : Hid ((((l.getD 0 0).toNat : Nat) : Int) = l.getD 0 0) := by show _ = _; have := h64 _ (getD_mem h0); omega
  obtain ⟨n, hnn⟩ : ∃ n, l.length = n := ⟨_, rfl⟩
  have HN := Lib.hid hnn
  have HW := Lib.hid h
  have H64 : Hid (∀ k, k < n → 0 ≤ l.getD k 0 ∧ l.getD k 0 < 18446744073709551616) := fun k hk => h64 _ (getD_mem (by rw [hnn]; exact hk))
  have HT : Hid (∀ k, k < n → isW (l.getD k 0).toNat = false → alkE l = 5) := fun k hk hw => by
    unfold alkE
    rw [if_neg]
    unfold allW
    rw [List.all_eq_true]
    intro hall
    rw [hall _ (getD_mem (by rw [hnn]; exact hk))] at hw
    cases hw
  have HE : Hid ((∀ k, k < n → isW (l.getD k 0).toNat = true) → alkE l = chkF (resW (l.getD 0 0).toNat) l) := fun hall => by
    unfold alkE
    rw [if_pos]
    unfold allW
    rw [List.all_eq_true]
    intro v hv
    obtain ⟨k, hk, rfl⟩ := List.getElem_of_mem hv
    have := hall k (by omega)
    rwa [List.getD_eq_getElem?_getD, List.getElem?_eq_getElem hk, Option.getD_some] at this
  rw [hnn] at hn h0 HCK ⊢
  generalize alkE l = E at *
  clear hnn h h64
  go_enter Tryz.func53, Tryz.ntmps53
  go_wp2
  go_loopw [7] (fun i wr => ∃ k : Nat, k ≤ n ∧ i = .int .i64 k ∧ Hid (∀ j, j < k → isW (l.getD j 0).toNat = true) ∧ Hid (Below w.heap.size w wr ∧ True)) (fun i _ => n - (intOf i).toNat)
  case atStart => exact ⟨0, by omega, rfl, fun j hj => by omega, Below.refl _ _, trivial⟩
  case round =>
    obtain ⟨k, hk, rfl, HA, hbi, -⟩ := hrel
    have HBI := Lib.hid hbi
    clear hbi
    have hsz := HBI.out.size
    by_cases hlt : k < n
    · obtain ⟨g, off, rfl, hg, hc⟩ := (HW.out.below HBI.out hB) (by rw [HN.out]; omega)
      have c0 := hc k (by rw [HN.out]; exact hlt)
      obtain ⟨v1, v2⟩ := H64.out k hlt
      have ht := HT.out k hlt
      have hA2 : isW (l.getD k 0).toNat = true → ∀ j, j < k + 1 → isW (l.getD j 0).toNat = true := fun hk2 j hj => by
        by_cases e : j = k
        · rw [e]; exact hk2
        · exact HA.out j (by omega)
      generalize l.getD k 0 = v at *
      obtain ⟨u, rfl⟩ : ∃ u : Nat, v = u := ⟨v.toNat, by omega⟩
      rw [Int.toNat_natCast] at ht hA2
      have HR := Lib.hid (iok_any u (by omega))
      have hgw : g < wr.heap.size := by omega
      clear hc
      obtain ⟨o, ho⟩ : ∃ o, isW u = o := ⟨_, rfl⟩
      rw [ho] at HR ht hA2
      clear ho
      have HA2 := Lib.hid hA2
      have HTT := Lib.hid ht
      clear hA2 ht
      cases o with
      | true =>
        have HA3 := Lib.hid (HA2.out rfl)
        clear HA2 HTT
        go_wp2_with fail
        refine (HR.out _).mono ?_
        rintro e w2 ⟨rfl, hb2⟩
        have HB2 := Lib.hid (HBI.out.trans (hb2.mono HBI.out.size))
        clear hb2
        go_wp2
        go_roundw
        case rel => exact ⟨k + 1, by omega, by go_num, HA3.out, HB2.out, trivial⟩
        case measure => simp [intOf]; omega
      | false =>
        have HE5 := Lib.hid (HTT.out rfl)
        clear HA2 HTT
        go_wp2_with fail
        refine (HR.out _).mono ?_
        rintro e w2 ⟨rfl, hb2⟩
        have HB2 := Lib.hid (HBI.out.trans (hb2.mono HBI.out.size))
        clear hb2
        go_wp2
        go_ret
        exact ⟨by rw [HE5.out]; rfl, HB2.out⟩
    · obtain ⟨g, off, rfl, hg, hc⟩ := (HW.out.below HBI.out hB) (by rw [HN.out]; omega)
      have c0 := hc 0 (by rw [HN.out]; exact h0)
      rw [← HV0.out, Nat.add_zero] at c0
      have HEE := Lib.hid (HE.out fun j hj => HA.out j (by omega))
      have hgw : g < wr.heap.size := by omega
      generalize (l.getD 0 0).toNat = u at *
      obtain ⟨R, hR⟩ : ∃ R, resW u = R := ⟨_, rfl⟩
      rw [hR] at HIR HCK HEE
      obtain ⟨X, hX⟩ : ∃ X, chkF R l = X := ⟨_, rfl⟩
      rw [hX] at HCK HEE
      have HC2 := Lib.hid (HCK.out)
      clear hc hX hR HCK
      go_wp2_with fail
      refine (HIR.out _).mono ?_
      rintro e w2 ⟨rfl, hb2⟩
      have HB2 := Lib.hid (HBI.out.trans (hb2.mono HBI.out.size))
      clear hb2 HBI
      go_wp2_with fail
      refine (HC2.out _ HB2.out).mono ?_
      rintro e w3 ⟨rfl, hb3⟩
      have HB3 := Lib.hid (HB2.out.trans (hb3.mono HB2.out.size))
      clear hb3
      go_wp2
      go_ret
      exact ⟨by rw [HEE.out]; rfl, HB3.out⟩
end Go.Proofs.YtkjfdaleamonaaaGreat
/- The contract of pack.all: the cells of words. -/
namespace Go.Proofs.YtkjfdaleamonaaaGreat
open Go.RowKit Go.Lib Wd

/-- A word's cell. -/
def celW (v : Int) : Cl := (cvR v.toNat, cvZ v.toNat)
theorem cV_snoc (l : List Cl) (c : Cl) : cV (l ++ [c]) = cV l ++ [.int .i64 c.1, .int .i64 c.2.1, .int .i64 c.2.2] := by rw [cV_append]; rfl
/-- What all tells. -/
def ToldA (w : World) (l : List Int) (e : Ending) (w' : World) : Prop :=
  Below w.heap.size w w' ∧ ((allW l = true ∧ ∃ ao c, e = .returned (.tuple #[.slice ao l.length c, .bool true]) ∧ w'.ownsRow w.heap.size 32 3 (.slice ao l.length c) l.length (cV (l.map celW))) ∨ (allW l = false ∧ e = .returned (.tuple #[.slice none 0 0, .bool false])))
set_option maxRecDepth 100000 in
set_option maxHeartbeats 4000000 in
theorem all_any (ao : Option Addr) (c : Nat) (l : List Int) (w : World) (B : Nat) (h : WordsAt w B ao l) (hB : B ≤ w.heap.size) (hn : l.length ≤ 1000000) (h64 : In64 l) :
    Calls Tryz.prog 50 #[.slice ao l.length c] w (ToldA w l) := by
  obtain ⟨i1, hj, hy0, hy1, hy2⟩ := info_parts info_c
  obtain ⟨n, hnn⟩ : ∃ n, l.length = n := ⟨_, rfl⟩
  have HN := Lib.hid hnn
  have HW := Lib.hid h
  have H64 : Hid (∀ k, k < n → 0 ≤ l.getD k 0 ∧ l.getD k 0 < 18446744073709551616) := fun k hk => h64 _ (getD_mem (by rw [hnn]; exact hk))
  have HT : Hid (∀ k, k < n → isW (l.getD k 0).toNat = false → allW l = false) := fun k hk hw => by
    cases ha : allW l with
    | false => rfl
    | true =>
      rw [List.all_eq_true.1 ha _ (getD_mem (by rw [hnn]; exact hk))] at hw
      cases hw
  have HE : Hid ((∀ k, k < n → isW (l.getD k 0).toNat = true) → allW l = true) := fun hall => by
    unfold allW
    rw [List.all_eq_true]
    intro v hv
    obtain ⟨k, hk, rfl⟩ := List.getElem_of_mem hv
    have := hall k (by omega)
    rwa [List.getD_eq_getElem?_getD, List.getElem?_eq_getElem hk, Option.getD_some] at this
  have HTK : Hid (∀ k, k < n → (l.map celW).take (k + 1) = (l.map celW).take k ++ [celW (l.getD k 0)]) := fun k hk => by
    rw [← List.map_take, take_w l (by omega), List.map_append, List.map_take]; rfl
  have HEND : Hid ((l.map celW).take n = l.map celW) := List.take_of_length_le (by rw [List.length_map, hnn]; exact Nat.le_refl _)
  have HFIN : Hid (∀ e w', Below w.heap.size w w' → ((allW l = true ∧ ∃ ao c, e = .returned (.tuple #[.slice ao n c, .bool true]) ∧ w'.ownsRow w.heap.size 32 3 (.slice ao n c) n (cV (l.map celW))) ∨ (allW l = false ∧ e = .returned (.tuple #[.slice none 0 0, .bool false]))) → ToldA w l e w') := fun e w' hb h => ⟨hb, by rw [hnn]; exact h⟩
  rw [hnn] at hn ⊢
  generalize allW l = AW at *
  clear hnn h h64
  go_enter Tryz.func50, Tryz.ntmps50
  go_wp2
  go_loopw [4, 11] (fun sv i wr => ∃ (k : Nat) (oo : Option Addr) (oc : Nat), k ≤ n ∧ i = .int .i64 k ∧ sv = .slice oo k oc ∧ Hid (∀ j, j < k → isW (l.getD j 0).toNat = true) ∧ Hid (wr.ownsRow w.heap.size 32 3 (.slice oo k oc) k (cV ((l.map celW).take k)) ∧ Below w.heap.size w wr)) (fun _ i _ => n - (intOf i).toNat)
  case atStart => exact ⟨0, none, 0, by omega, rfl, rfl, fun j hj => by omega, World.ownsRow_nil _ _ _ _, Below.refl _ _⟩
  case round =>
    obtain ⟨k, oo, oc, hk, rfl, rfl, HA, HI⟩ := hrel
    have hbr := HI.out.2
    have hsz := hbr.size
    by_cases hlt : k < n
    · obtain ⟨g, off, rfl, hg, hc⟩ := (HW.out.below hbr hB) (by rw [HN.out]; omega)
      have c0 := hc k (by rw [HN.out]; exact hlt)
      obtain ⟨v1, v2⟩ := H64.out k hlt
      have ht := HT.out k hlt
      have htk : (l.map celW).take (k + 1) = (l.map celW).take k ++ [(cvR (l.getD k 0).toNat, cvZ (l.getD k 0).toNat)] := HTK.out k hlt
      have hA2 : isW (l.getD k 0).toNat = true → ∀ j, j < k + 1 → isW (l.getD j 0).toNat = true := fun hk2 j hj => by
        by_cases e : j = k
        · rw [e]; exact hk2
        · exact HA.out j (by omega)
      generalize l.getD k 0 = v at *
      obtain ⟨u, rfl⟩ : ∃ u : Nat, v = u := ⟨v.toNat, by omega⟩
      rw [Int.toNat_natCast] at ht hA2 htk
      have hcell := cell_any u (by omega)
      have hgw : g < wr.heap.size := by omega
      clear hc hbr
      by_cases hW : isW u = true
      · have e1 : cvE u = 0 := by unfold cvE; rw [if_pos hW]
        rw [e1] at hcell
        have HC := Lib.hid hcell
        have HA3 := Lib.hid (hA2 hW)
        have HTK2 := Lib.hid htk
        generalize cvR u = r at *
        generalize cvZ u = z at *
        clear hcell e1 hA2 ht hW htk
        simp only [vC] at *
        go_wp2_with fail
        refine (HC.out _).mono ?_
        rintro e w1 ⟨rfl, hb1⟩
        have hsr := HI.out.2.size
        have hal : Below w1.heap.size w1 (w1.alloc (.cells #[.int .i64 r, .int .i64 z.1, .int .i64 z.2] 32)) := (Below.refl _ _).alloc (Nat.le_refl _) _
        have hb2 := hb1.trans (hal.mono hb1.size)
        have T1 : Hid (Tri (w1.alloc (.cells #[.int .i64 r, .int .i64 z.1, .int .i64 z.2] 32)) w1.heap.size r z) := heap_new _ _ _ rfl
        have HO2 := Lib.hid (own_later HI.out.1 hb2)
        have HB2 := Lib.hid (HI.out.2.trans (hb2.mono hsr))
        clear hb1 hal hb2 HI c0
        go_upto_region 6 with (fail)
        generalize w1.alloc (.cells #[.int .i64 r, .int .i64 z.1, .int .i64 z.2] 32) = w2 at *
        obtain ⟨t0, t1, t2, t3, t4, t5, t6⟩ := T1.out.cells
        have hown := HO2.out
        have hs2 := HB2.out.size
        have hbs : w.heap.size ≤ (w2.alloc (.cells #[.int .i64 r, .int .i64 z.1, .int .i64 z.2] 32)).heap.size := by rw [World.size_alloc]; omega
        have HBA := Lib.hid (HB2.out.alloc hs2 (.cells #[.int .i64 r, .int .i64 z.1, .int .i64 z.2] 32))
        clear HO2
        go_wp2_with (at_builtin; refine wpList_append_own_at _ rfl (.tmp 22) (.tmp 24) 35 rfl w.heap.size 32 i1 (.agg #[.int .i64 0, .int .i64 0, .int .i64 0]) 3 24 Tryz.underlying35 hj hy0 hy1 hy2 rfl (by decide) _ _ _ rfl (hown.alloc _) ⟨w2.heap.size, 0, none⟩ 1 1 [.int .i64 r, .int .i64 z.1, .int .i64 z.2] rfl rfl (cells_new _ _ _ _ rfl) (by simp [Value.oneCell']) (by unfold maxLen; omega) (by omega) hbs ?_; intro v' w3 hown1 hgrow _ _)
        have HB3 : Hid (Below w.heap.size w w3) := below_append HBA.out (hown.alloc (.cells #[.int .i64 r, .int .i64 z.1, .int .i64 z.2] 32)) hbs hgrow
        obtain ⟨oo', oc', rfl, -⟩ := own_form hown1
        have HO3 : Hid (w3.ownsRow w.heap.size 32 3 (.slice oo' (k + 1) oc') (k + 1) (cV ((l.map celW).take (k + 1)))) := by rw [HTK2.out, cV_snoc]; exact hown1
        clear hown1 hgrow hown
        go_roundw
        case rel => exact ⟨k + 1, oo', oc', by omega, by go_num, rfl, HA3.out, HO3.out, HB3.out⟩
        case measure => simp [intOf]; omega
      · have e1 : cvE u = 5 := by unfold cvE; rw [if_neg hW]
        have hWf : isW u = false := by simpa using hW
        rw [e1] at hcell
        have HC := Lib.hid hcell
        have HAW := Lib.hid (ht hWf)
        generalize cvR u = r at *
        generalize cvZ u = z at *
        clear hcell e1 hA2 ht hW hWf htk
        simp only [vC] at *
        go_wp2_with fail
        refine (HC.out _).mono ?_
        rintro e w1 ⟨rfl, hb1⟩
        have hal : Below w1.heap.size w1 (w1.alloc (.cells #[.int .i64 r, .int .i64 z.1, .int .i64 z.2] 32)) := (Below.refl _ _).alloc (Nat.le_refl _) _
        have HB2 := Lib.hid (HI.out.2.trans ((hb1.trans (hal.mono hb1.size)).mono hsz))
        clear hb1 hal
        go_wp2
        go_ret2
        exact HFIN.out _ _ HB2.out (.inr ⟨HAW.out, rfl⟩)
    · obtain rfl : n = k := by omega
      have HAW := Lib.hid (HE.out HA.out)
      have ho := HI.out.1
      rw [HEND.out] at ho
      have HO := Lib.hid ho
      clear ho
      go_wp2
      go_ret2
      exact HFIN.out _ _ HI.out.2 (.inl ⟨HAW.out, oo, oc, rfl, HO.out⟩)
end Go.Proofs.YtkjfdaleamonaaaGreat
/- Contracts of cell.child, cell.Children, cell.climb. -/
namespace Go.Proofs.YtkjfdaleamonaaaGreat
open Go.RowKit Go.Lib Wd

theorem mul21 (z : E2) (hz : Sm 1073741824 z) (w : World) : Calls Tryz.prog 99 #[.agg #[.int .i64 z.1, .int .i64 z.2], .agg #[.int .i64 2, .int .i64 1]] w fun e w' => e = .returned (.tuple #[.agg #[.int .i64 (mulE z (2, 1)).1, .int .i64 (mulE z (2, 1)).2], .bool true]) ∧ Below w.heap.size w w' := by
  obtain ⟨h1, h2, h3, h4⟩ := hz
  exact mul_in z.1 z.2 2 1 (by omega) (by omega) (by decide) (by decide) (by omega) (by omega) w
/-- Three new blocks: a cell and a number that are handed in, a cell that is to be told. -/
theorem three_new (w : World) (r : Int) (z l : E2) :
    Hid (Tri (((w.alloc (.cells #[.int .i64 r, .int .i64 z.1, .int .i64 z.2] 32)).alloc (.cells #[.int .i64 l.1, .int .i64 l.2] 30)).alloc (.cells #[.int .i64 0, .int .i64 0, .int .i64 0] 32)) w.heap.size r z) ∧
    Hid (Two (((w.alloc (.cells #[.int .i64 r, .int .i64 z.1, .int .i64 z.2] 32)).alloc (.cells #[.int .i64 l.1, .int .i64 l.2] 30)).alloc (.cells #[.int .i64 0, .int .i64 0, .int .i64 0] 32)) (w.heap.size + 1) (.int .i64 l.1) (.int .i64 l.2)) ∧
    Hid (Tri (((w.alloc (.cells #[.int .i64 r, .int .i64 z.1, .int .i64 z.2] 32)).alloc (.cells #[.int .i64 l.1, .int .i64 l.2] 30)).alloc (.cells #[.int .i64 0, .int .i64 0, .int .i64 0] 32)) (w.heap.size + 1 + 1) 0 (0, 0)) ∧
    Hid (Below w.heap.size w (((w.alloc (.cells #[.int .i64 r, .int .i64 z.1, .int .i64 z.2] 32)).alloc (.cells #[.int .i64 l.1, .int .i64 l.2] 30)).alloc (.cells #[.int .i64 0, .int .i64 0, .int .i64 0] 32))) := by
  have e0 : Tri (w.alloc (.cells #[.int .i64 r, .int .i64 z.1, .int .i64 z.2] 32)) w.heap.size r z := heap_new _ _ _ rfl
  have e1 : Two ((w.alloc (.cells #[.int .i64 r, .int .i64 z.1, .int .i64 z.2] 32)).alloc (.cells #[.int .i64 l.1, .int .i64 l.2] 30)) (w.heap.size + 1) (.int .i64 l.1) (.int .i64 l.2) := Two.of_row (t := 30) (f := _) (heap_new _ _ _ (by simp))
  refine ⟨(e0.later ((Below.refl _ _).alloc (Nat.le_refl _) _)).later ((Below.refl _ _).alloc (Nat.le_refl _) _), e1.later (by simp) ((Below.refl _ _).alloc (Nat.le_refl _) _), heap_new _ _ _ (by simp), (((Below.refl _ w).alloc (Nat.le_refl _) _).alloc (by simp) _).alloc (by simp; omega) _⟩
set_option maxRecDepth 100000 in
set_option maxHeartbeats 4000000 in
theorem child_in (r : Int) (z l : E2) (hz : Sm 1073741824 z) (hl : Sm 1 l) (h0 : 0 ≤ r) (h12 : r ≤ 12) (w : World) : Calls Tryz.prog 86 #[vC r z, vE l] w fun e w' => e = .returned (vC (r + 1) (addE (mulE z (2, 1)) l)) ∧ Below w.heap.size w w' := by
  have HM := Lib.hid (mul21 z hz)
  have hm : Sm 4294967296 (mulE z (2, 1)) := by unfold Sm mulE at *; simp only; omega
  have HA := Lib.hid (add_in (mulE z (2, 1)) l (hm.mono (by decide)) (hl.mono (by decide)))
  generalize mulE z (2, 1) = m at *
  generalize addE m l = p at *
  obtain ⟨T0, L0, G0, B0⟩ := three_new w r z l
  simp only [vC, vE] at *
  clear hz hl hm
  go_enter Tryz.func86, Tryz.ntmps86
  go_upto_region 1 with (fail)
  generalize ((w.alloc (.cells #[.int .i64 r, .int .i64 z.1, .int .i64 z.2] 32)).alloc (.cells #[.int .i64 l.1, .int .i64 l.2] 30)).alloc (.cells #[.int .i64 0, .int .i64 0, .int .i64 0] 32) = w0 at *
  obtain ⟨t0, t1, t2, t3, t4, t5, t6⟩ := T0.out.cells
  have lb := G0.out.lt
  go_wp2_with fail
  refine (HM.out _).mono ?_
  rintro e w1 ⟨rfl, hb1⟩
  have hal : Below w1.heap.size w1 (w1.alloc (.cells #[.int .i64 m.1, .int .i64 m.2] 30)) := (Below.refl _ _).alloc (Nat.le_refl _) _
  have hb2 := hb1.trans (hal.mono hb1.size)
  have M1 : Hid (Two (w1.alloc (.cells #[.int .i64 m.1, .int .i64 m.2] 30)) w1.heap.size (.int .i64 m.1) (.int .i64 m.2)) := Two.of_row (t := 30) (f := _) (heap_new _ _ _ rfl)
  have T1 := Lib.hid (T0.out.later hb2)
  have L1 := Lib.hid (L0.out.later (by omega) hb2)
  have G1 := Lib.hid (G0.out.later hb2)
  have B1 := Lib.hid (B0.out.trans (hb2.mono B0.out.size))
  have lm : w1.heap.size < (w1.alloc (.cells #[.int .i64 m.1, .int .i64 m.2] 30)).heap.size := by simp
  clear hb1 hal hb2 t0 t1 t2 t3 t4 t5 t6 T0 L0 G0 B0 lb
  go_upto_region 2 with (fail)
  generalize w1.alloc (.cells #[.int .i64 m.1, .int .i64 m.2] 30) = w2 at *
  obtain ⟨t0, t1, t2, t3, t4, t5, t6⟩ := T1.out.cells
  obtain ⟨k0, k1⟩ := L1.out
  obtain ⟨m0, m1⟩ := M1.out
  have lb := G1.out.lt
  go_wp2_with fail
  refine (HA.out _).mono ?_
  rintro e w3 ⟨rfl, hb3⟩
  have hal : Below w3.heap.size w3 (w3.alloc (.cells #[.int .i64 p.1, .int .i64 p.2] 30)) := (Below.refl _ _).alloc (Nat.le_refl _) _
  have hb4 := hb3.trans (hal.mono hb3.size)
  have P1 : Hid (Two (w3.alloc (.cells #[.int .i64 p.1, .int .i64 p.2] 30)) w3.heap.size (.int .i64 p.1) (.int .i64 p.2)) := Two.of_row (t := 30) (f := _) (heap_new _ _ _ rfl)
  have T2 := Lib.hid (T1.out.later hb4)
  have G2 := Lib.hid (G1.out.later hb4)
  have B2 := Lib.hid (B1.out.trans (hb4.mono B1.out.size))
  clear hb3 hal hb4 t0 t1 t2 t3 t4 t5 t6 T1 L1 G1 B1 k0 k1 m0 m1 M1 lb
  go_upto_region 3 with (fail)
  generalize w3.alloc (.cells #[.int .i64 p.1, .int .i64 p.2] 30) = w4 at *
  obtain ⟨t0, t1, t2, t3, t4, t5, t6⟩ := T2.out.cells
  obtain ⟨g0, g1, g2, g3, g4, g5, g6⟩ := G2.out.cells
  obtain ⟨p0, p1⟩ := P1.out
  have q : IntKind.i64.wrap (r + 1) = r + 1 := wrap_in (by omega) (by omega)
  go_wp2
  exact bodyPost_ret (v := .agg #[.int .i64 (r + 1), .int .i64 p.1, .int .i64 p.2]) (by simp [results, Tryz.results86, go_sem, *]) rfl ⟨rfl, below3 B2.out (by omega) _ _ _⟩
set_option maxRecDepth 100000 in
set_option maxHeartbeats 4000000 in
theorem ckids_any (r : Int) (z : E2) (w : World) : Calls Tryz.prog 52 #[vC r z] w (ToldC w (kdL r z) (kdE r z)) := by
  obtain ⟨i1, hj, hy0, hy1, hy2⟩ := info_parts info_c
  have HOK := Lib.hid (ok_any r z)
  have HAL : Hid (Below w.heap.size w (w.alloc (.cells #[.int .i64 r, .int .i64 z.1, .int .i64 z.2] 32))) := (Below.refl _ _).alloc (Nat.le_refl _) _
  have HTR : Hid (Tri (w.alloc (.cells #[.int .i64 r, .int .i64 z.1, .int .i64 z.2] 32)) w.heap.size r z) := heap_new _ _ _ rfl
  have kA : (w.alloc (.cells #[.int .i64 r, .int .i64 z.1, .int .i64 z.2] 32)).heap.size = w.heap.size + 1 := by simp
  by_cases h : okB r z = true
  · obtain ⟨r0, r12, hsm⟩ := ok_parts h
    rw [h] at HOK
    by_cases hr : r = 12
    · subst hr
      have hE : kdE 12 z = 1 := by unfold kdE; rw [if_pos h, if_pos rfl]
      have hL : kdL 12 z = [] := by unfold kdL; rw [hE]; rfl
      rw [hE, hL]
      clear hE hL h hsm r0 r12
      simp only [vC] at *
      go_enter Tryz.func52, Tryz.ntmps52
      go_upto_region 1 with (fail)
      generalize w.alloc (.cells #[.int .i64 12, .int .i64 z.1, .int .i64 z.2] 32) = w0 at *
      obtain ⟨c0, c1, c2, c3, c4, c5, c6⟩ := HTR.out.cells
      go_wp2_with fail
      refine (HOK.out _).mono ?_
      rintro e w1 ⟨rfl, hb1⟩
      obtain ⟨c0, c1, c2, c3, c4, c5, c6⟩ := (HTR.out.later hb1).cells
      have HB := Lib.hid (HAL.out.trans (hb1.mono (by omega)))
      clear hb1
      go_wp2
      go_ret2
      exact ⟨none, 0, rfl, fun h => by simp at h, HB.out⟩
    · have hE : kdE r z = 0 := by unfold kdE; rw [if_pos h, if_neg hr]
      have hL : kdL r z = kidsL r z := by unfold kdL; rw [if_pos hE]
      have q1 : (r == 12) = false := by simp [hr]
      have HCH : Hid (∀ l, Sm 1 l → ∀ w, Calls Tryz.prog 86 #[vC r z, vE l] w fun e w' => e = .returned (vC (r + 1) (addE (mulE z (2, 1)) l)) ∧ Below w.heap.size w w') := fun l hl w => child_in r z l hsm hl r0 r12 w
      rw [hE, hL]
      have HTK := Lib.hid (fun k (h : k < 7) => kidsL_take r z h)
      have HLN : Hid ((kidsL r z).length = 7) := by show _ = _; unfold kidsL; simp
      have HDN : Hid (∀ k, downE z k = addE (mulE z (2, 1)) (leftE k)) := fun k => rfl
      have HT1 : Hid ((kidsL r z).take 1 = [(r + 1, downE z 0)]) := rfl
      generalize kidsL r z = L at *
      generalize mulE z (2, 1) = m at *
      clear hE hL h hsm hr
      simp only [vC, vE] at *
      go_enter Tryz.func52, Tryz.ntmps52
      go_upto_region 1 with (fail)
      generalize w.alloc (.cells #[.int .i64 r, .int .i64 z.1, .int .i64 z.2] 32) = w0 at *
      obtain ⟨c0, c1, c2, c3, c4, c5, c6⟩ := HTR.out.cells
      go_wp2_with fail
      refine (HOK.out _).mono ?_
      rintro e w1 ⟨rfl, hb1⟩
      have HTR1 := Lib.hid (HTR.out.later hb1)
      have HB1 := Lib.hid (HAL.out.trans (hb1.mono (by omega)))
      have hz1 := hb1.size
      clear hb1 HTR HAL c0 c1 c2 c3 c4 c5 c6
      obtain ⟨c0, c1, c2, c3, c4, c5, c6⟩ := HTR1.out.cells
      have HC0 := Lib.hid (HCH.out (0, 0) (by unfold Sm; simp))
      have HP0 : Hid (downE z 0 = addE m (0, 0)) := HDN.out 0
      generalize addE m (0, 0) = p0 at *
      go_wp2_with fail
      refine (HC0.out _).mono ?_
      rintro e w2 ⟨rfl, hb2⟩
      have HTR2 := Lib.hid (HTR1.out.later hb2)
      have HB2 := Lib.hid (HB1.out.trans (hb2.mono (by omega)))
      have hz2 := hb2.size
      clear hb2 HTR1 HB1 c0 c1 c2 c3 c4 c5 c6
      have HO0 : Hid ((w2.alloc (.cells #[.int .i64 (r + 1), .int .i64 p0.1, .int .i64 p0.2] 32)).ownsRow w2.heap.size 32 3 (.slice (some ⟨w2.heap.size, 0, none⟩) 1 1) 1 (cV (L.take 1))) := by rw [HT1.out, HP0.out]; exact World.ownsRow_lit (size := 3) (e := 32) w2 #[.int .i64 (r + 1), .int .i64 p0.1, .int .i64 p0.2] 1 (Nat.le_refl _) (by decide) rfl
      have HB4 : Hid (Below w2.heap.size w2 (w2.alloc (.cells #[.int .i64 (r + 1), .int .i64 p0.1, .int .i64 p0.2] 32))) := (Below.refl _ _).alloc (Nat.le_refl _) _
      go_upto_region 6 with (fail)
      generalize w2.alloc (.cells #[.int .i64 (r + 1), .int .i64 p0.1, .int .i64 p0.2] 32) = w4 at *
      have hb4 := HB4.out.size
      go_wp2
      go_loopw [4, 5, 18] (fun sl _ i wr => ∃ (k : Nat) (ao : Option Addr) (c : Nat), k ≤ 6 ∧ i = .int .i64 k ∧ sl = .slice ao (k + 1) c ∧ Hid (wr.ownsRow w2.heap.size 32 3 (.slice ao (k + 1) c) (k + 1) (cV (L.take (k + 1))) ∧ Below w2.heap.size w2 wr)) (fun _ _ i _ => 6 - (intOf i).toNat)
      case atStart => exact ⟨0, _, _, by omega, rfl, rfl, HO0.out, HB4.out⟩
      case round =>
        obtain ⟨k, ao, c, hk, rfl, rfl, HI⟩ := hrel
        by_cases hlt : k < 6
        · have q2 : decide ((k : Int) < 6) = true := decide_eq_true (by omega)
          have HUN := Lib.hid (unit_in k hlt)
          have HTK2 := Lib.hid (HTK.out (k + 1) (by omega))
          have HLE : Hid (leftE (k + 1) = unitE k) := rfl
          have hu := left_sm (k + 1)
          rw [HLE.out] at hu
          have HC1 := Lib.hid (HCH.out (unitE k) (hu.mono (by decide)))
          have HD1 : Hid (downE z (k + 1) = addE m (unitE k)) := by rw [← HLE.out]; exact HDN.out (k + 1)
          simp only [vE] at HUN
          generalize unitE k = u at *
          generalize addE m u = p at *
          have hsr := HI.out.2.size
          have HTX := Lib.hid ((HTR2.out.later (HI.out.2)).later (Below.refl _ _).drew)
          have HOW := Lib.hid (own_later HI.out.1 (Below.refl _ _).drew)
          have HBX := Lib.hid HI.out.2.drew
          obtain ⟨c0, c1, c2, c3, c4, c5, c6⟩ := HTX.out.cells
          clear HI hu
          go_upto_region 9 with (fail)
          go_region_law (first
            | (refine step_append_lies _ rfl (.tmp 21) (.tmp 26) 35 rfl w2.heap.size 32 i1 (.agg #[.int .i64 0, .int .i64 0, .int .i64 0]) 3 24 Tryz.underlying35 hj hy0 hy1 hy2 rfl (by decide) (.slice ao (k + 1) c) (k + 1) (cV (L.take (k + 1))) (by simp [Act.eval]) (hO6.alloc _) ⟨w6.heap.size, 0, none⟩ 1 1 [.int .i64 (r + 1), .int .i64 p.1, .int .i64 p.2] (by simp [Act.eval]) rfl (cells_new _ _ _ _ rfl) (by simp [Value.oneCell']) (by decide) (by unfold maxLen; omega) (by omega) hbs _ rfl ?_; intro xg xcap w7 hown1 hgrow hat hxl)
            | (go_simp; go_at_call 87; refine (HUN.out _).mono ?_; rintro e w5 ⟨rfl, hb5⟩; have hO5 := own_later HOW.out hb5; have HT5 := HTX.out.later hb5; obtain ⟨d0, d1, d2, d3, d4, d5, d6⟩ := HT5.cells)
            | (go_simp; go_at_call 86; refine (HC1.out _).mono ?_; rintro e w6 ⟨rfl, hb6⟩; have hO6 := own_later hO5 hb6; have HB6 := Lib.hid (HBX.out.trans ((hb5.trans (hb6.mono hb5.size)).mono HBX.out.size)); have hbs : w2.heap.size ≤ (w6.alloc (.cells #[.int .i64 (r + 1), .int .i64 p.1, .int .i64 p.2] 32)).heap.size := by rw [World.size_alloc]; exact Nat.le_succ_of_le HB6.out.size))
          all_goals
            have HB7 := Lib.hid (below_append (HB6.out.alloc HB6.out.size (.cells #[.int .i64 (r + 1), .int .i64 p.1, .int .i64 p.2] 32)) (hO6.alloc (.cells #[.int .i64 (r + 1), .int .i64 p.1, .int .i64 p.2] 32)) hbs hgrow)
            have HO7 : Hid (w7.ownsRow w2.heap.size 32 3 (.slice (some ⟨xg, 0, none⟩) (k + 1 + 1) xcap) (k + 1 + 1) (cV (L.take (k + 1 + 1)))) := by rw [HTK2.out, HD1.out, cV_append]; exact hown1
            clear hown1 hgrow hat hxl hO6 hO5 HB6 hbs hb5 hb6 HT5 d0 d1 d2 d3 d4 d5 d6 c0 c1 c2 c3 c4 c5 c6
            go_wp2
            go_roundw
            case rel => exact ⟨k + 1, _, xcap, by omega, by go_num, rfl, HO7.out, HB7.out⟩
            case measure => simp [intOf]; omega
        · obtain rfl : k = 6 := by omega
          have HF : Hid (ToldC w L 0 (.returned (.tuple #[.slice ao 7 c, .int .i64 0])) wr) := by
            have h1 := HI.out.1
            rw [show L.take (6 + 1) = L from List.take_of_length_le (by rw [HLN.out]; exact Nat.le_refl _)] at h1
            exact ⟨ao, c, by rw [HLN.out], cAt_own (by rw [HLN.out]) h1, HB2.out.trans (HI.out.2.mono (by omega))⟩
          clear HI
          go_wp2
          go_ret2
          exact HF.out
  · have hE : kdE r z = 2 := by unfold kdE; rw [if_neg h]
    have hL : kdL r z = [] := by unfold kdL; rw [hE]; rfl
    rw [hE, hL]
    rw [Bool.eq_false_iff.2 h] at HOK
    clear hE hL h
    simp only [vC] at *
    go_enter Tryz.func52, Tryz.ntmps52
    go_upto_region 1 with (fail)
    generalize w.alloc (.cells #[.int .i64 r, .int .i64 z.1, .int .i64 z.2] 32) = w0 at *
    obtain ⟨c0, c1, c2, c3, c4, c5, c6⟩ := HTR.out.cells
    go_wp2_with fail
    refine (HOK.out _).mono ?_
    rintro e w1 ⟨rfl, hb1⟩
    have HB := Lib.hid (HAL.out.trans (hb1.mono (by omega)))
    clear hb1
    go_wp2
    go_ret2
    exact ⟨none, 0, rfl, fun h => by simp at h, HB.out⟩
end Go.Proofs.YtkjfdaleamonaaaGreat
/- Contracts of cell.climb, cell.Within, pack.Covers. -/
namespace Go.Proofs.YtkjfdaleamonaaaGreat
open Go.RowKit Go.Lib Wd

theorem upN_ok : ∀ (k : Nat) {r : Nat} {z : E2}, okB (r + k : Nat) z = true → okB r (upN k z) = true
  | 0, r, z, h => h
  | k + 1, r, z, h => by
    rw [upN_up]
    exact up_ok (upN_ok k (r := r + 1) (by rw [show r + 1 + k = r + (k + 1) by omega]; exact h))
set_option maxRecDepth 100000 in
set_option maxHeartbeats 4000000 in
theorem climb_any {R : Nat} {z : E2} (hz : okB R z = true) {s : Nat} (hs : s ≤ R) (w : World) : Calls Tryz.prog 101 #[vC R z, .int .i64 s] w fun e w' => e = .returned (vC s (upN (R - s) z)) ∧ Below w.heap.size w w' := by
  have hR := (okB_parts hz).1
  obtain ⟨T0, G0, B0⟩ := two_new w R z
  have HST : Hid (∀ k, s ≤ k → k + 1 ≤ R → ∀ w, Calls Tryz.prog 93 #[vC (k + 1 : Nat) (upN (R - (k + 1)) z)] w fun e w' => e = .returned (vC (k : Nat) (upN (R - k) z)) ∧ Below w.heap.size w w') := fun k h1 h2 w => by
    have ho : okB (k + 1 : Nat) (upN (R - (k + 1)) z) = true := upN_ok _ (by rw [show k + 1 + (R - (k + 1)) = R by omega]; exact hz)
    have h := step_in ((k + 1 : Nat) : Int) _ (ok_parts ho).2.2 (by omega) (by omega) w
    rw [← upN_up, show ((k + 1 : Nat) : Int) - 1 = (k : Int) by omega, show R - (k + 1) + 1 = R - k by omega] at h
    exact h
  have H0 : Hid (upN (R - R) z = z) := by show _ = _; rw [Nat.sub_self]; rfl
  obtain ⟨y, hy⟩ : ∃ y, upN (R - s) z = y := ⟨_, rfl⟩
  have HY := Lib.hid hy
  rw [hy]
  clear hz hy
  simp only [vC] at *
  go_enter Tryz.func101, Tryz.ntmps101
  go_upto_region 1 with (fail)
  generalize (w.alloc (.cells #[.int .i64 R, .int .i64 z.1, .int .i64 z.2] 32)).alloc (.cells #[.int .i64 0, .int .i64 0, .int .i64 0] 32) = w0 at *
  go_loopg [5] R (fun q _ wr => ∃ k : Nat, s ≤ k ∧ k ≤ R ∧ k ≤ q ∧ Hid (Tri wr w.heap.size k (upN (R - k) z) ∧ Tri wr (w.heap.size + 1) 0 (0, 0) ∧ Below w.heap.size w wr))
  case atStart => exact ⟨R, hs, Nat.le_refl _, Nat.le_refl _, by rw [H0.out]; exact T0.out, G0.out, B0.out⟩
  case round =>
    obtain ⟨k, hk1, hk2, hq, HI⟩ := hrel
    obtain ⟨t0, t1, t2, t3, t4, t5, t6⟩ := HI.out.1.cells
    by_cases hlt : s < k
    · obtain ⟨j, rfl⟩ : ∃ j, k = j + 1 := ⟨k - 1, by omega⟩
      have HS := Lib.hid (HST.out j (by omega) hk2)
      generalize upN (R - (j + 1)) z = y at *
      have q1 : decide ((s : Int) < ((j + 1 : Nat) : Int)) = true := decide_eq_true (by omega)
      have q1n : decide (s < j + 1) = true := decide_eq_true hlt
      obtain ⟨x, hx⟩ : ∃ x, upN (R - j) z = x := ⟨_, rfl⟩
      rw [hx] at HS
      have HX := Lib.hid hx
      clear hx
      go_wp2_with fail
      refine (HS.out _).mono ?_
      rintro e w1 ⟨rfl, hb1⟩
      have hsz := HI.out.2.2.size
      have T1 := HI.out.1.later hb1
      have G1 := HI.out.2.1.later hb1
      have B1 := HI.out.2.2.trans (hb1.mono hsz)
      obtain ⟨p1, p2⟩ := T1.put (j : Int) x
      have HI2 : Hid (Tri (((w1.setCell ⟨w.heap.size, 0, none⟩ (.int .i64 j)).setCell ⟨w.heap.size, 1, none⟩ (.int .i64 x.1)).setCell ⟨w.heap.size, 2, none⟩ (.int .i64 x.2)) w.heap.size j (upN (R - j) z) ∧ Tri (((w1.setCell ⟨w.heap.size, 0, none⟩ (.int .i64 j)).setCell ⟨w.heap.size, 1, none⟩ (.int .i64 x.1)).setCell ⟨w.heap.size, 2, none⟩ (.int .i64 x.2)) (w.heap.size + 1) 0 (0, 0) ∧ Below w.heap.size w (((w1.setCell ⟨w.heap.size, 0, none⟩ (.int .i64 j)).setCell ⟨w.heap.size, 1, none⟩ (.int .i64 x.1)).setCell ⟨w.heap.size, 2, none⟩ (.int .i64 x.2))) := ⟨by rw [HX.out]; exact p1, G1.turn p2 (by omega), below3 B1 (Nat.le_refl _) _ _ _⟩
      have hjq := Nat.le_trans (Nat.le_succ j) hq
      clear t0 t1 t2 t3 t4 t5 t6
      obtain ⟨t0, t1, t2, t3, t4, t5, t6⟩ := T1.cells
      clear T1 G1 B1 p1 p2 hb1 HI HS
      go_wp2
      go_roundg j
      case measure => omega
      case rel => exact ⟨j, by omega, by omega, Nat.le_refl _, HI2.out⟩
    · obtain rfl : k = s := by omega
      have q1 : decide ((k : Int) < (k : Int)) = false := decide_eq_false (by omega)
      obtain ⟨g0, g1, g2, g3, g4, g5, g6⟩ := HI.out.2.1.cells
      have HB := Lib.hid HI.out.2.2
      rw [HY.out] at t1 t2
      clear HI
      go_wp2
      exact bodyPost_ret (v := .agg #[.int .i64 k, .int .i64 y.1, .int .i64 y.2]) (by simp [results, Tryz.results101, go_sem, *]) rfl ⟨rfl, below3 HB.out (by omega) _ _ _⟩
/-- Whether a cell is another one, or within it. -/
def winB (r : Int) (z : E2) (s : Int) (y : E2) : Bool := okB r z && okB s y && decide (s ≤ r) && decide (upN (r - s).toNat z = y)
theorem win_new (w : World) (r s : Int) (z y : E2) :
    Hid (Tri ((w.alloc (.cells #[.int .i64 r, .int .i64 z.1, .int .i64 z.2] 32)).alloc (.cells #[.int .i64 s, .int .i64 y.1, .int .i64 y.2] 32)) w.heap.size r z) ∧ Hid (Tri ((w.alloc (.cells #[.int .i64 r, .int .i64 z.1, .int .i64 z.2] 32)).alloc (.cells #[.int .i64 s, .int .i64 y.1, .int .i64 y.2] 32)) (w.heap.size + 1) s y) ∧ Hid (Below w.heap.size w ((w.alloc (.cells #[.int .i64 r, .int .i64 z.1, .int .i64 z.2] 32)).alloc (.cells #[.int .i64 s, .int .i64 y.1, .int .i64 y.2] 32))) := by
  refine ⟨?_, heap_new _ _ _ (by simp), ((Below.refl _ _).alloc (Nat.le_refl _) _).alloc (by simp) _⟩
  show _ = _
  rw [Below.heap_alloc _ _ _ (by simp)]
  exact heap_new _ _ _ rfl
set_option maxRecDepth 100000 in
set_option maxHeartbeats 4000000 in
theorem cwithin_any (r s : Int) (z y : E2) (w : World) : Calls Tryz.prog 67 #[vC r z, vC s y] w fun e w' => e = .returned (.bool (winB r z s y)) ∧ Below w.heap.size w w' := by
  have HOC := Lib.hid (ok_any r z)
  have HOA := Lib.hid (ok_any s y)
  obtain ⟨T0, T1, B0⟩ := win_new w r s z y
  simp only [vC] at *
  by_cases h1 : okB r z = true
  · by_cases h2 : okB s y = true
    · by_cases h3 : s ≤ r
      · obtain ⟨S, rfl⟩ : ∃ S : Nat, s = S := by obtain ⟨k, hk, -⟩ := okB_nat h2; exact ⟨k, hk⟩
        obtain ⟨R, rfl⟩ : ∃ R : Nat, r = R := by obtain ⟨k, hk, -⟩ := okB_nat h1; exact ⟨k, hk⟩
        have hcl := climb_any h1 (s := S) (by omega)
        have hW : winB R z S y = decide (upN (R - S) z = y) := by unfold winB; rw [h1, h2, decide_eq_true h3, show ((R : Int) - S).toNat = R - S by omega]; simp
        rw [hW]
        generalize upN (R - S) z = x at *
        rw [h1] at HOC
        rw [h2] at HOA
        obtain ⟨o, ho⟩ : ∃ o, decide (x = y) = o := ⟨_, rfl⟩
        have HQ1 : Hid (x.1 = y.1 → x.2 = y.2 → o = true) := fun h1 h2 => by rw [← ho]; exact decide_eq_true (Prod.ext h1 h2)
        have HQ2 : Hid (¬ x.1 = y.1 → o = false) := fun h1 => by rw [← ho]; exact decide_eq_false fun e => h1 (by rw [e])
        have HQ3 : Hid (¬ x.2 = y.2 → o = false) := fun h1 => by rw [← ho]; exact decide_eq_false fun e => h1 (by rw [e])
        rw [ho]
        have HCL := Lib.hid hcl
        have q1 : decide ((S : Int) ≤ R) = true := decide_eq_true h3
        have q1n : decide (S ≤ R) = true := decide_eq_true (by omega)
        simp only [vC] at HCL
        clear h1 h2 h3 hW hcl ho
        go_enter Tryz.func67, Tryz.ntmps67
        go_upto_region 1 with (fail)
        generalize (w.alloc (.cells #[.int .i64 R, .int .i64 z.1, .int .i64 z.2] 32)).alloc (.cells #[.int .i64 S, .int .i64 y.1, .int .i64 y.2] 32) = w0 at *
        refine wp_region_inv (fun w w' => Below w.heap.size w w') (fun qi_ qv_ _ => qv_ = ([.agg #[.int .i64 R, .int .i64 z.1, .int .i64 z.2], .bool true, .bool true, .agg #[.int .i64 S, .int .i64 y.1, .int .i64 y.2], .bool true, .bool true, .bool true, .pointer (some ⟨w.heap.size, 0, none⟩), .int .i64 R, .pointer (some ⟨w.heap.size + 1, 0, none⟩), .int .i64 S, .bool true, .bool true, .bool true, .agg #[.int .i64 R, .int .i64 z.1, .int .i64 z.2], .pointer (some ⟨w.heap.size + 1, 0, none⟩), .int .i64 S, .agg #[.int .i64 S, .int .i64 x.1, .int .i64 x.2], .agg #[.int .i64 S, .int .i64 y.1, .int .i64 y.2], .bool o, .bool o, .bool o] : List Value).getD qi_ undef) (by kernel_rfl) (by kernel_rfl) (fun _ => Below.refl _ _) (fun _ _ _ h1 h2 => below_later h1 h1.size h2) (fun _ _ _ _ _ _ h => h) ?_
        refine inv_cons (fun wx hg hd => ?_) (fun v0 => ?_)
        · have hx := ((Below.refl w0.heap.size w0).drew).trans hg
          clear hd hg
          have T := T0.out.later hx
          obtain ⟨t0, t1, t2, t3, t4, t5, t6⟩ := T.cells
          go_wp2
          exact ⟨_, rfl, Below.refl _ _, rfl⟩
        (try simp only [List.nil_append, Act.put, List.setIfInBounds_toArray, List.set_cons_zero, List.set_cons_succ])
        refine inv_cons (fun wx hg hd => ?_) (fun v1 => ?_)
        · have hx := ((Below.refl w0.heap.size w0).drew).trans hg
          (try (have ee : v0 = (.agg #[.int .i64 R, .int .i64 z.1, .int .i64 z.2] : Value) := hd 0 (by simp) (by decide); subst ee))
          clear hd hg
          go_wp2_with fail
          refine (HOC.out _).mono ?_
          rintro e w' ⟨rfl, hb⟩
          go_wp2
          exact ⟨_, rfl, hb, rfl⟩
        (try simp only [List.cons_append, List.nil_append, Act.put, List.setIfInBounds_toArray, List.set_cons_zero, List.set_cons_succ])
        refine inv_cons (fun wx hg hd => ?_) (fun v2 => ?_)
        · have hx := ((Below.refl w0.heap.size w0).drew).trans hg
          (try (have ee : v1 = (.bool true : Value) := hd 1 (by simp) (by decide); subst ee))
          clear hd hg
          go_wp2
          exact ⟨_, rfl, Below.refl _ _, rfl⟩
        (try simp only [List.cons_append, List.nil_append, Act.put, List.setIfInBounds_toArray, List.set_cons_zero, List.set_cons_succ])
        refine inv_cons (fun wx hg hd => ?_) (fun v3 => ?_)
        · have hx := ((Below.refl w0.heap.size w0).drew).trans hg
          (try (have ee : v2 = (.bool true : Value) := hd 2 (by simp) (by decide); subst ee))
          clear hd hg
          have T := T1.out.later hx
          obtain ⟨t0, t1, t2, t3, t4, t5, t6⟩ := T.cells
          go_wp2
          exact ⟨_, rfl, Below.refl _ _, rfl⟩
        (try simp only [List.cons_append, List.nil_append, Act.put, List.setIfInBounds_toArray, List.set_cons_zero, List.set_cons_succ])
        refine inv_cons (fun wx hg hd => ?_) (fun v4 => ?_)
        · have hx := ((Below.refl w0.heap.size w0).drew).trans hg
          (try (have ee : v2 = (.bool true : Value) := hd 2 (by simp) (by decide); subst ee))
          (try (have ee : v3 = (.agg #[.int .i64 S, .int .i64 y.1, .int .i64 y.2] : Value) := hd 3 (by simp) (by decide); subst ee))
          clear hd hg
          go_wp2_with fail
          refine (HOA.out _).mono ?_
          rintro e w' ⟨rfl, hb⟩
          go_wp2
          exact ⟨_, rfl, hb, rfl⟩
        (try simp only [List.cons_append, List.nil_append, Act.put, List.setIfInBounds_toArray, List.set_cons_zero, List.set_cons_succ])
        refine inv_cons (fun wx hg hd => ?_) (fun v5 => ?_)
        · have hx := ((Below.refl w0.heap.size w0).drew).trans hg
          (try (have ee : v2 = (.bool true : Value) := hd 2 (by simp) (by decide); subst ee))
          (try (have ee : v4 = (.bool true : Value) := hd 4 (by simp) (by decide); subst ee))
          clear hd hg
          go_wp2
          exact ⟨_, rfl, Below.refl _ _, rfl⟩
        (try simp only [List.cons_append, List.nil_append, Act.put, List.setIfInBounds_toArray, List.set_cons_zero, List.set_cons_succ])
        refine inv_cons (fun wx hg hd => ?_) (fun v6 => ?_)
        · have hx := ((Below.refl w0.heap.size w0).drew).trans hg
          (try (have ee : v5 = (.bool true : Value) := hd 5 (by simp) (by decide); subst ee))
          clear hd hg
          go_wp2
          exact ⟨_, rfl, Below.refl _ _, rfl⟩
        (try simp only [List.cons_append, List.nil_append, Act.put, List.setIfInBounds_toArray, List.set_cons_zero, List.set_cons_succ])
        refine inv_cons (fun wx hg hd => ?_) (fun v7 => ?_)
        · have hx := ((Below.refl w0.heap.size w0).drew).trans hg
          (try (have ee : v6 = (.bool true : Value) := hd 6 (by simp) (by decide); subst ee))
          clear hd hg
          go_wp2
          exact ⟨_, rfl, Below.refl _ _, rfl⟩
        (try simp only [List.cons_append, List.nil_append, Act.put, List.setIfInBounds_toArray, List.set_cons_zero, List.set_cons_succ])
        refine inv_cons (fun wx hg hd => ?_) (fun v8 => ?_)
        · have hx := ((Below.refl w0.heap.size w0).drew).trans hg
          (try (have ee : v6 = (.bool true : Value) := hd 6 (by simp) (by decide); subst ee))
          (try (have ee : v7 = (.pointer (some ⟨w.heap.size, 0, none⟩) : Value) := hd 7 (by simp) (by decide); subst ee))
          clear hd hg
          have T := T0.out.later hx
          obtain ⟨t0, t1, t2, t3, t4, t5, t6⟩ := T.cells
          go_wp2
          exact ⟨_, rfl, Below.refl _ _, rfl⟩
        (try simp only [List.cons_append, List.nil_append, Act.put, List.setIfInBounds_toArray, List.set_cons_zero, List.set_cons_succ])
        refine inv_cons (fun wx hg hd => ?_) (fun v9 => ?_)
        · have hx := ((Below.refl w0.heap.size w0).drew).trans hg
          (try (have ee : v6 = (.bool true : Value) := hd 6 (by simp) (by decide); subst ee))
          clear hd hg
          go_wp2
          exact ⟨_, rfl, Below.refl _ _, rfl⟩
        (try simp only [List.cons_append, List.nil_append, Act.put, List.setIfInBounds_toArray, List.set_cons_zero, List.set_cons_succ])
        refine inv_cons (fun wx hg hd => ?_) (fun v10 => ?_)
        · have hx := ((Below.refl w0.heap.size w0).drew).trans hg
          (try (have ee : v6 = (.bool true : Value) := hd 6 (by simp) (by decide); subst ee))
          (try (have ee : v9 = (.pointer (some ⟨w.heap.size + 1, 0, none⟩) : Value) := hd 9 (by simp) (by decide); subst ee))
          clear hd hg
          have T := T1.out.later hx
          obtain ⟨t0, t1, t2, t3, t4, t5, t6⟩ := T.cells
          go_wp2
          exact ⟨_, rfl, Below.refl _ _, rfl⟩
        (try simp only [List.cons_append, List.nil_append, Act.put, List.setIfInBounds_toArray, List.set_cons_zero, List.set_cons_succ])
        refine inv_cons (fun wx hg hd => ?_) (fun v11 => ?_)
        · have hx := ((Below.refl w0.heap.size w0).drew).trans hg
          (try (have ee : v6 = (.bool true : Value) := hd 6 (by simp) (by decide); subst ee))
          (try (have ee : v8 = (.int .i64 R : Value) := hd 8 (by simp) (by decide); subst ee))
          (try (have ee : v10 = (.int .i64 S : Value) := hd 10 (by simp) (by decide); subst ee))
          clear hd hg
          go_wp2
          exact ⟨_, rfl, Below.refl _ _, rfl⟩
        (try simp only [List.cons_append, List.nil_append, Act.put, List.setIfInBounds_toArray, List.set_cons_zero, List.set_cons_succ])
        refine inv_cons (fun wx hg hd => ?_) (fun v12 => ?_)
        · have hx := ((Below.refl w0.heap.size w0).drew).trans hg
          (try (have ee : v6 = (.bool true : Value) := hd 6 (by simp) (by decide); subst ee))
          (try (have ee : v11 = (.bool true : Value) := hd 11 (by simp) (by decide); subst ee))
          clear hd hg
          go_wp2
          exact ⟨_, rfl, Below.refl _ _, rfl⟩
        (try simp only [List.cons_append, List.nil_append, Act.put, List.setIfInBounds_toArray, List.set_cons_zero, List.set_cons_succ])
        refine inv_cons (fun wx hg hd => ?_) (fun v13 => ?_)
        · have hx := ((Below.refl w0.heap.size w0).drew).trans hg
          (try (have ee : v12 = (.bool true : Value) := hd 12 (by simp) (by decide); subst ee))
          clear hd hg
          go_wp2
          exact ⟨_, rfl, Below.refl _ _, rfl⟩
        (try simp only [List.cons_append, List.nil_append, Act.put, List.setIfInBounds_toArray, List.set_cons_zero, List.set_cons_succ])
        refine inv_cons (fun wx hg hd => ?_) (fun v14 => ?_)
        · have hx := ((Below.refl w0.heap.size w0).drew).trans hg
          (try (have ee : v13 = (.bool true : Value) := hd 13 (by simp) (by decide); subst ee))
          clear hd hg
          have T := T0.out.later hx
          obtain ⟨t0, t1, t2, t3, t4, t5, t6⟩ := T.cells
          go_wp2
          exact ⟨_, rfl, Below.refl _ _, rfl⟩
        (try simp only [List.cons_append, List.nil_append, Act.put, List.setIfInBounds_toArray, List.set_cons_zero, List.set_cons_succ])
        refine inv_cons (fun wx hg hd => ?_) (fun v15 => ?_)
        · have hx := ((Below.refl w0.heap.size w0).drew).trans hg
          (try (have ee : v13 = (.bool true : Value) := hd 13 (by simp) (by decide); subst ee))
          clear hd hg
          go_wp2
          exact ⟨_, rfl, Below.refl _ _, rfl⟩
        (try simp only [List.cons_append, List.nil_append, Act.put, List.setIfInBounds_toArray, List.set_cons_zero, List.set_cons_succ])
        refine inv_cons (fun wx hg hd => ?_) (fun v16 => ?_)
        · have hx := ((Below.refl w0.heap.size w0).drew).trans hg
          (try (have ee : v13 = (.bool true : Value) := hd 13 (by simp) (by decide); subst ee))
          (try (have ee : v15 = (.pointer (some ⟨w.heap.size + 1, 0, none⟩) : Value) := hd 15 (by simp) (by decide); subst ee))
          clear hd hg
          have T := T1.out.later hx
          obtain ⟨t0, t1, t2, t3, t4, t5, t6⟩ := T.cells
          go_wp2
          exact ⟨_, rfl, Below.refl _ _, rfl⟩
        (try simp only [List.cons_append, List.nil_append, Act.put, List.setIfInBounds_toArray, List.set_cons_zero, List.set_cons_succ])
        refine inv_cons (fun wx hg hd => ?_) (fun v17 => ?_)
        · have hx := ((Below.refl w0.heap.size w0).drew).trans hg
          (try (have ee : v13 = (.bool true : Value) := hd 13 (by simp) (by decide); subst ee))
          (try (have ee : v14 = (.agg #[.int .i64 R, .int .i64 z.1, .int .i64 z.2] : Value) := hd 14 (by simp) (by decide); subst ee))
          (try (have ee : v16 = (.int .i64 S : Value) := hd 16 (by simp) (by decide); subst ee))
          clear hd hg
          go_wp2_with fail
          refine (HCL.out _).mono ?_
          rintro e w' ⟨rfl, hb⟩
          go_wp2
          exact ⟨_, rfl, hb, rfl⟩
        (try simp only [List.cons_append, List.nil_append, Act.put, List.setIfInBounds_toArray, List.set_cons_zero, List.set_cons_succ])
        refine inv_cons (fun wx hg hd => ?_) (fun v18 => ?_)
        · have hx := ((Below.refl w0.heap.size w0).drew).trans hg
          (try (have ee : v13 = (.bool true : Value) := hd 13 (by simp) (by decide); subst ee))
          clear hd hg
          have T := T1.out.later hx
          obtain ⟨t0, t1, t2, t3, t4, t5, t6⟩ := T.cells
          go_wp2
          exact ⟨_, rfl, Below.refl _ _, rfl⟩
        (try simp only [List.cons_append, List.nil_append, Act.put, List.setIfInBounds_toArray, List.set_cons_zero, List.set_cons_succ])
        refine inv_cons (fun wx hg hd => ?_) (fun v19 => ?_)
        · have hx := ((Below.refl w0.heap.size w0).drew).trans hg
          (try (have ee : v13 = (.bool true : Value) := hd 13 (by simp) (by decide); subst ee))
          (try (have ee : v17 = (.agg #[.int .i64 S, .int .i64 x.1, .int .i64 x.2] : Value) := hd 17 (by simp) (by decide); subst ee))
          (try (have ee : v18 = (.agg #[.int .i64 S, .int .i64 y.1, .int .i64 y.2] : Value) := hd 18 (by simp) (by decide); subst ee))
          clear hd hg
          go_wp2
          all_goals (first | exact ⟨_, rfl, Below.refl _ _, by rw [show o = true from HQ1.out ‹_› ‹_›] <;> rfl⟩ | exact ⟨_, rfl, Below.refl _ _, by rw [show o = false from HQ2.out ‹_›] <;> rfl⟩ | exact ⟨_, rfl, Below.refl _ _, by rw [show o = false from HQ3.out ‹_›] <;> rfl⟩)
        (try simp only [List.cons_append, List.nil_append, Act.put, List.setIfInBounds_toArray, List.set_cons_zero, List.set_cons_succ])
        refine inv_cons (fun wx hg hd => ?_) (fun v20 => ?_)
        · have hx := ((Below.refl w0.heap.size w0).drew).trans hg
          (try (have ee : v13 = (.bool true : Value) := hd 13 (by simp) (by decide); subst ee))
          (try (have ee : v19 = (.bool o : Value) := hd 19 (by simp) (by decide); subst ee))
          clear hd hg
          go_wp2
          exact ⟨_, rfl, Below.refl _ _, rfl⟩
        (try simp only [List.cons_append, List.nil_append, Act.put, List.setIfInBounds_toArray, List.set_cons_zero, List.set_cons_succ])
        refine inv_cons (fun wx hg hd => ?_) (fun v21 => ?_)
        · have hx := ((Below.refl w0.heap.size w0).drew).trans hg
          (try (have ee : v20 = (.bool o : Value) := hd 20 (by simp) (by decide); subst ee))
          clear hd hg
          go_wp2
          exact ⟨_, rfl, Below.refl _ _, rfl⟩
        (try simp only [List.cons_append, List.nil_append, Act.put, List.setIfInBounds_toArray, List.set_cons_zero, List.set_cons_succ])
        refine inv_done (fun wx hg hd => ?_)
        have hx := ((Below.refl w0.heap.size w0).drew).trans hg
        (have ee : v0 = (.agg #[.int .i64 R, .int .i64 z.1, .int .i64 z.2] : Value) := hd 0 (by simp); subst ee)
        (have ee : v1 = (.bool true : Value) := hd 1 (by simp); subst ee)
        (have ee : v2 = (.bool true : Value) := hd 2 (by simp); subst ee)
        (have ee : v3 = (.agg #[.int .i64 S, .int .i64 y.1, .int .i64 y.2] : Value) := hd 3 (by simp); subst ee)
        (have ee : v4 = (.bool true : Value) := hd 4 (by simp); subst ee)
        (have ee : v5 = (.bool true : Value) := hd 5 (by simp); subst ee)
        (have ee : v6 = (.bool true : Value) := hd 6 (by simp); subst ee)
        (have ee : v7 = (.pointer (some ⟨w.heap.size, 0, none⟩) : Value) := hd 7 (by simp); subst ee)
        (have ee : v8 = (.int .i64 R : Value) := hd 8 (by simp); subst ee)
        (have ee : v9 = (.pointer (some ⟨w.heap.size + 1, 0, none⟩) : Value) := hd 9 (by simp); subst ee)
        (have ee : v10 = (.int .i64 S : Value) := hd 10 (by simp); subst ee)
        (have ee : v11 = (.bool true : Value) := hd 11 (by simp); subst ee)
        (have ee : v12 = (.bool true : Value) := hd 12 (by simp); subst ee)
        (have ee : v13 = (.bool true : Value) := hd 13 (by simp); subst ee)
        (have ee : v14 = (.agg #[.int .i64 R, .int .i64 z.1, .int .i64 z.2] : Value) := hd 14 (by simp); subst ee)
        (have ee : v15 = (.pointer (some ⟨w.heap.size + 1, 0, none⟩) : Value) := hd 15 (by simp); subst ee)
        (have ee : v16 = (.int .i64 S : Value) := hd 16 (by simp); subst ee)
        (have ee : v17 = (.agg #[.int .i64 S, .int .i64 x.1, .int .i64 x.2] : Value) := hd 17 (by simp); subst ee)
        (have ee : v18 = (.agg #[.int .i64 S, .int .i64 y.1, .int .i64 y.2] : Value) := hd 18 (by simp); subst ee)
        (have ee : v19 = (.bool o : Value) := hd 19 (by simp); subst ee)
        (have ee : v20 = (.bool o : Value) := hd 20 (by simp); subst ee)
        (have ee : v21 = (.bool o : Value) := hd 21 (by simp); subst ee)
        clear hd hg
        (try go_simp)
        have B1 := Lib.hid (B0.out.trans (hx.mono B0.out.size))
        clear hx
        go_wp2
        go_ret
        exact ⟨rfl, B1.out⟩
      · have hW : winB r z s y = false := by unfold winB; rw [decide_eq_false h3]; simp
        rw [hW]
        rw [h1] at HOC
        rw [h2] at HOA
        have q1 : decide (s ≤ r) = false := decide_eq_false h3
        clear h1 h2 h3 hW
        go_enter Tryz.func67, Tryz.ntmps67
        go_upto_region 1 with (fail)
        generalize (w.alloc (.cells #[.int .i64 r, .int .i64 z.1, .int .i64 z.2] 32)).alloc (.cells #[.int .i64 s, .int .i64 y.1, .int .i64 y.2] 32) = w0 at *
        refine wp_region_inv (fun w w' => Below w.heap.size w w') (fun qi_ qv_ _ => qv_ = ([.agg #[.int .i64 r, .int .i64 z.1, .int .i64 z.2], .bool true, .bool true, .agg #[.int .i64 s, .int .i64 y.1, .int .i64 y.2], .bool true, .bool true, .bool true, .pointer (some ⟨w.heap.size, 0, none⟩), .int .i64 r, .pointer (some ⟨w.heap.size + 1, 0, none⟩), .int .i64 s, .bool false, .bool false, .bool false, undef, undef, undef, undef, undef, undef, .bool false, .bool false] : List Value).getD qi_ undef) (by kernel_rfl) (by kernel_rfl) (fun _ => Below.refl _ _) (fun _ _ _ h1 h2 => below_later h1 h1.size h2) (fun _ _ _ _ _ _ h => h) ?_
        refine inv_cons (fun wx hg hd => ?_) (fun v0 => ?_)
        · have hx := ((Below.refl w0.heap.size w0).drew).trans hg
          clear hd hg
          have T := T0.out.later hx
          obtain ⟨t0, t1, t2, t3, t4, t5, t6⟩ := T.cells
          go_wp2
          exact ⟨_, rfl, Below.refl _ _, rfl⟩
        (try simp only [List.nil_append, Act.put, List.setIfInBounds_toArray, List.set_cons_zero, List.set_cons_succ])
        refine inv_cons (fun wx hg hd => ?_) (fun v1 => ?_)
        · have hx := ((Below.refl w0.heap.size w0).drew).trans hg
          (try (have ee : v0 = (.agg #[.int .i64 r, .int .i64 z.1, .int .i64 z.2] : Value) := hd 0 (by simp) (by decide); subst ee))
          clear hd hg
          go_wp2_with fail
          refine (HOC.out _).mono ?_
          rintro e w' ⟨rfl, hb⟩
          go_wp2
          exact ⟨_, rfl, hb, rfl⟩
        (try simp only [List.cons_append, List.nil_append, Act.put, List.setIfInBounds_toArray, List.set_cons_zero, List.set_cons_succ])
        refine inv_cons (fun wx hg hd => ?_) (fun v2 => ?_)
        · have hx := ((Below.refl w0.heap.size w0).drew).trans hg
          (try (have ee : v1 = (.bool true : Value) := hd 1 (by simp) (by decide); subst ee))
          clear hd hg
          go_wp2
          exact ⟨_, rfl, Below.refl _ _, rfl⟩
        (try simp only [List.cons_append, List.nil_append, Act.put, List.setIfInBounds_toArray, List.set_cons_zero, List.set_cons_succ])
        refine inv_cons (fun wx hg hd => ?_) (fun v3 => ?_)
        · have hx := ((Below.refl w0.heap.size w0).drew).trans hg
          (try (have ee : v2 = (.bool true : Value) := hd 2 (by simp) (by decide); subst ee))
          clear hd hg
          have T := T1.out.later hx
          obtain ⟨t0, t1, t2, t3, t4, t5, t6⟩ := T.cells
          go_wp2
          exact ⟨_, rfl, Below.refl _ _, rfl⟩
        (try simp only [List.cons_append, List.nil_append, Act.put, List.setIfInBounds_toArray, List.set_cons_zero, List.set_cons_succ])
        refine inv_cons (fun wx hg hd => ?_) (fun v4 => ?_)
        · have hx := ((Below.refl w0.heap.size w0).drew).trans hg
          (try (have ee : v2 = (.bool true : Value) := hd 2 (by simp) (by decide); subst ee))
          (try (have ee : v3 = (.agg #[.int .i64 s, .int .i64 y.1, .int .i64 y.2] : Value) := hd 3 (by simp) (by decide); subst ee))
          clear hd hg
          go_wp2_with fail
          refine (HOA.out _).mono ?_
          rintro e w' ⟨rfl, hb⟩
          go_wp2
          exact ⟨_, rfl, hb, rfl⟩
        (try simp only [List.cons_append, List.nil_append, Act.put, List.setIfInBounds_toArray, List.set_cons_zero, List.set_cons_succ])
        refine inv_cons (fun wx hg hd => ?_) (fun v5 => ?_)
        · have hx := ((Below.refl w0.heap.size w0).drew).trans hg
          (try (have ee : v2 = (.bool true : Value) := hd 2 (by simp) (by decide); subst ee))
          (try (have ee : v4 = (.bool true : Value) := hd 4 (by simp) (by decide); subst ee))
          clear hd hg
          go_wp2
          exact ⟨_, rfl, Below.refl _ _, rfl⟩
        (try simp only [List.cons_append, List.nil_append, Act.put, List.setIfInBounds_toArray, List.set_cons_zero, List.set_cons_succ])
        refine inv_cons (fun wx hg hd => ?_) (fun v6 => ?_)
        · have hx := ((Below.refl w0.heap.size w0).drew).trans hg
          (try (have ee : v5 = (.bool true : Value) := hd 5 (by simp) (by decide); subst ee))
          clear hd hg
          go_wp2
          exact ⟨_, rfl, Below.refl _ _, rfl⟩
        (try simp only [List.cons_append, List.nil_append, Act.put, List.setIfInBounds_toArray, List.set_cons_zero, List.set_cons_succ])
        refine inv_cons (fun wx hg hd => ?_) (fun v7 => ?_)
        · have hx := ((Below.refl w0.heap.size w0).drew).trans hg
          (try (have ee : v6 = (.bool true : Value) := hd 6 (by simp) (by decide); subst ee))
          clear hd hg
          go_wp2
          exact ⟨_, rfl, Below.refl _ _, rfl⟩
        (try simp only [List.cons_append, List.nil_append, Act.put, List.setIfInBounds_toArray, List.set_cons_zero, List.set_cons_succ])
        refine inv_cons (fun wx hg hd => ?_) (fun v8 => ?_)
        · have hx := ((Below.refl w0.heap.size w0).drew).trans hg
          (try (have ee : v6 = (.bool true : Value) := hd 6 (by simp) (by decide); subst ee))
          (try (have ee : v7 = (.pointer (some ⟨w.heap.size, 0, none⟩) : Value) := hd 7 (by simp) (by decide); subst ee))
          clear hd hg
          have T := T0.out.later hx
          obtain ⟨t0, t1, t2, t3, t4, t5, t6⟩ := T.cells
          go_wp2
          exact ⟨_, rfl, Below.refl _ _, rfl⟩
        (try simp only [List.cons_append, List.nil_append, Act.put, List.setIfInBounds_toArray, List.set_cons_zero, List.set_cons_succ])
        refine inv_cons (fun wx hg hd => ?_) (fun v9 => ?_)
        · have hx := ((Below.refl w0.heap.size w0).drew).trans hg
          (try (have ee : v6 = (.bool true : Value) := hd 6 (by simp) (by decide); subst ee))
          clear hd hg
          go_wp2
          exact ⟨_, rfl, Below.refl _ _, rfl⟩
        (try simp only [List.cons_append, List.nil_append, Act.put, List.setIfInBounds_toArray, List.set_cons_zero, List.set_cons_succ])
        refine inv_cons (fun wx hg hd => ?_) (fun v10 => ?_)
        · have hx := ((Below.refl w0.heap.size w0).drew).trans hg
          (try (have ee : v6 = (.bool true : Value) := hd 6 (by simp) (by decide); subst ee))
          (try (have ee : v9 = (.pointer (some ⟨w.heap.size + 1, 0, none⟩) : Value) := hd 9 (by simp) (by decide); subst ee))
          clear hd hg
          have T := T1.out.later hx
          obtain ⟨t0, t1, t2, t3, t4, t5, t6⟩ := T.cells
          go_wp2
          exact ⟨_, rfl, Below.refl _ _, rfl⟩
        (try simp only [List.cons_append, List.nil_append, Act.put, List.setIfInBounds_toArray, List.set_cons_zero, List.set_cons_succ])
        refine inv_cons (fun wx hg hd => ?_) (fun v11 => ?_)
        · have hx := ((Below.refl w0.heap.size w0).drew).trans hg
          (try (have ee : v6 = (.bool true : Value) := hd 6 (by simp) (by decide); subst ee))
          (try (have ee : v8 = (.int .i64 r : Value) := hd 8 (by simp) (by decide); subst ee))
          (try (have ee : v10 = (.int .i64 s : Value) := hd 10 (by simp) (by decide); subst ee))
          clear hd hg
          go_wp2
          exact ⟨_, rfl, Below.refl _ _, rfl⟩
        (try simp only [List.cons_append, List.nil_append, Act.put, List.setIfInBounds_toArray, List.set_cons_zero, List.set_cons_succ])
        refine inv_cons (fun wx hg hd => ?_) (fun v12 => ?_)
        · have hx := ((Below.refl w0.heap.size w0).drew).trans hg
          (try (have ee : v6 = (.bool true : Value) := hd 6 (by simp) (by decide); subst ee))
          (try (have ee : v11 = (.bool false : Value) := hd 11 (by simp) (by decide); subst ee))
          clear hd hg
          go_wp2
          exact ⟨_, rfl, Below.refl _ _, rfl⟩
        (try simp only [List.cons_append, List.nil_append, Act.put, List.setIfInBounds_toArray, List.set_cons_zero, List.set_cons_succ])
        refine inv_cons (fun wx hg hd => ?_) (fun v13 => ?_)
        · have hx := ((Below.refl w0.heap.size w0).drew).trans hg
          (try (have ee : v12 = (.bool false : Value) := hd 12 (by simp) (by decide); subst ee))
          clear hd hg
          go_wp2
          exact ⟨_, rfl, Below.refl _ _, rfl⟩
        (try simp only [List.cons_append, List.nil_append, Act.put, List.setIfInBounds_toArray, List.set_cons_zero, List.set_cons_succ])
        refine inv_cons (fun wx hg hd => ?_) (fun v14 => ?_)
        · have hx := ((Below.refl w0.heap.size w0).drew).trans hg
          (try (have ee : v13 = (.bool false : Value) := hd 13 (by simp) (by decide); subst ee))
          clear hd hg
          go_wp2
          exact ⟨_, rfl, Below.refl _ _, rfl⟩
        (try simp only [List.cons_append, List.nil_append, Act.put, List.setIfInBounds_toArray, List.set_cons_zero, List.set_cons_succ])
        refine inv_cons (fun wx hg hd => ?_) (fun v15 => ?_)
        · have hx := ((Below.refl w0.heap.size w0).drew).trans hg
          (try (have ee : v13 = (.bool false : Value) := hd 13 (by simp) (by decide); subst ee))
          clear hd hg
          go_wp2
          exact ⟨_, rfl, Below.refl _ _, rfl⟩
        (try simp only [List.cons_append, List.nil_append, Act.put, List.setIfInBounds_toArray, List.set_cons_zero, List.set_cons_succ])
        refine inv_cons (fun wx hg hd => ?_) (fun v16 => ?_)
        · have hx := ((Below.refl w0.heap.size w0).drew).trans hg
          (try (have ee : v13 = (.bool false : Value) := hd 13 (by simp) (by decide); subst ee))
          (try (have ee : v15 = (undef : Value) := hd 15 (by simp) (by decide); subst ee))
          clear hd hg
          go_wp2
          exact ⟨_, rfl, Below.refl _ _, rfl⟩
        (try simp only [List.cons_append, List.nil_append, Act.put, List.setIfInBounds_toArray, List.set_cons_zero, List.set_cons_succ])
        refine inv_cons (fun wx hg hd => ?_) (fun v17 => ?_)
        · have hx := ((Below.refl w0.heap.size w0).drew).trans hg
          (try (have ee : v13 = (.bool false : Value) := hd 13 (by simp) (by decide); subst ee))
          (try (have ee : v14 = (undef : Value) := hd 14 (by simp) (by decide); subst ee))
          (try (have ee : v16 = (undef : Value) := hd 16 (by simp) (by decide); subst ee))
          clear hd hg
          go_wp2
          exact ⟨_, rfl, Below.refl _ _, rfl⟩
        (try simp only [List.cons_append, List.nil_append, Act.put, List.setIfInBounds_toArray, List.set_cons_zero, List.set_cons_succ])
        refine inv_cons (fun wx hg hd => ?_) (fun v18 => ?_)
        · have hx := ((Below.refl w0.heap.size w0).drew).trans hg
          (try (have ee : v13 = (.bool false : Value) := hd 13 (by simp) (by decide); subst ee))
          clear hd hg
          go_wp2
          exact ⟨_, rfl, Below.refl _ _, rfl⟩
        (try simp only [List.cons_append, List.nil_append, Act.put, List.setIfInBounds_toArray, List.set_cons_zero, List.set_cons_succ])
        refine inv_cons (fun wx hg hd => ?_) (fun v19 => ?_)
        · have hx := ((Below.refl w0.heap.size w0).drew).trans hg
          (try (have ee : v13 = (.bool false : Value) := hd 13 (by simp) (by decide); subst ee))
          (try (have ee : v17 = (undef : Value) := hd 17 (by simp) (by decide); subst ee))
          (try (have ee : v18 = (undef : Value) := hd 18 (by simp) (by decide); subst ee))
          clear hd hg
          go_wp2
          exact ⟨_, rfl, Below.refl _ _, rfl⟩
        (try simp only [List.cons_append, List.nil_append, Act.put, List.setIfInBounds_toArray, List.set_cons_zero, List.set_cons_succ])
        refine inv_cons (fun wx hg hd => ?_) (fun v20 => ?_)
        · have hx := ((Below.refl w0.heap.size w0).drew).trans hg
          (try (have ee : v13 = (.bool false : Value) := hd 13 (by simp) (by decide); subst ee))
          (try (have ee : v19 = (undef : Value) := hd 19 (by simp) (by decide); subst ee))
          clear hd hg
          go_wp2
          exact ⟨_, rfl, Below.refl _ _, rfl⟩
        (try simp only [List.cons_append, List.nil_append, Act.put, List.setIfInBounds_toArray, List.set_cons_zero, List.set_cons_succ])
        refine inv_cons (fun wx hg hd => ?_) (fun v21 => ?_)
        · have hx := ((Below.refl w0.heap.size w0).drew).trans hg
          (try (have ee : v20 = (.bool false : Value) := hd 20 (by simp) (by decide); subst ee))
          clear hd hg
          go_wp2
          exact ⟨_, rfl, Below.refl _ _, rfl⟩
        (try simp only [List.cons_append, List.nil_append, Act.put, List.setIfInBounds_toArray, List.set_cons_zero, List.set_cons_succ])
        refine inv_done (fun wx hg hd => ?_)
        have hx := ((Below.refl w0.heap.size w0).drew).trans hg
        (have ee : v0 = (.agg #[.int .i64 r, .int .i64 z.1, .int .i64 z.2] : Value) := hd 0 (by simp); subst ee)
        (have ee : v1 = (.bool true : Value) := hd 1 (by simp); subst ee)
        (have ee : v2 = (.bool true : Value) := hd 2 (by simp); subst ee)
        (have ee : v3 = (.agg #[.int .i64 s, .int .i64 y.1, .int .i64 y.2] : Value) := hd 3 (by simp); subst ee)
        (have ee : v4 = (.bool true : Value) := hd 4 (by simp); subst ee)
        (have ee : v5 = (.bool true : Value) := hd 5 (by simp); subst ee)
        (have ee : v6 = (.bool true : Value) := hd 6 (by simp); subst ee)
        (have ee : v7 = (.pointer (some ⟨w.heap.size, 0, none⟩) : Value) := hd 7 (by simp); subst ee)
        (have ee : v8 = (.int .i64 r : Value) := hd 8 (by simp); subst ee)
        (have ee : v9 = (.pointer (some ⟨w.heap.size + 1, 0, none⟩) : Value) := hd 9 (by simp); subst ee)
        (have ee : v10 = (.int .i64 s : Value) := hd 10 (by simp); subst ee)
        (have ee : v11 = (.bool false : Value) := hd 11 (by simp); subst ee)
        (have ee : v12 = (.bool false : Value) := hd 12 (by simp); subst ee)
        (have ee : v13 = (.bool false : Value) := hd 13 (by simp); subst ee)
        (have ee : v14 = (undef : Value) := hd 14 (by simp); subst ee)
        (have ee : v15 = (undef : Value) := hd 15 (by simp); subst ee)
        (have ee : v16 = (undef : Value) := hd 16 (by simp); subst ee)
        (have ee : v17 = (undef : Value) := hd 17 (by simp); subst ee)
        (have ee : v18 = (undef : Value) := hd 18 (by simp); subst ee)
        (have ee : v19 = (undef : Value) := hd 19 (by simp); subst ee)
        (have ee : v20 = (.bool false : Value) := hd 20 (by simp); subst ee)
        (have ee : v21 = (.bool false : Value) := hd 21 (by simp); subst ee)
        clear hd hg
        (try go_simp)
        have B1 := Lib.hid (B0.out.trans (hx.mono B0.out.size))
        clear hx
        go_wp2
        go_ret
        exact ⟨rfl, B1.out⟩
    · have hW : winB r z s y = false := by unfold winB; rw [Bool.eq_false_iff.2 h2]; simp
      rw [hW]
      rw [h1] at HOC
      rw [Bool.eq_false_iff.2 h2] at HOA
      clear h1 h2 hW
      go_enter Tryz.func67, Tryz.ntmps67
      go_upto_region 1 with (fail)
      generalize (w.alloc (.cells #[.int .i64 r, .int .i64 z.1, .int .i64 z.2] 32)).alloc (.cells #[.int .i64 s, .int .i64 y.1, .int .i64 y.2] 32) = w0 at *
      refine wp_region_inv (fun w w' => Below w.heap.size w w') (fun qi_ qv_ _ => qv_ = ([.agg #[.int .i64 r, .int .i64 z.1, .int .i64 z.2], .bool true, .bool true, .agg #[.int .i64 s, .int .i64 y.1, .int .i64 y.2], .bool false, .bool false, .bool false, undef, undef, undef, undef, undef, .bool false, .bool false, undef, undef, undef, undef, undef, undef, .bool false, .bool false] : List Value).getD qi_ undef) (by kernel_rfl) (by kernel_rfl) (fun _ => Below.refl _ _) (fun _ _ _ h1 h2 => below_later h1 h1.size h2) (fun _ _ _ _ _ _ h => h) ?_
      refine inv_cons (fun wx hg hd => ?_) (fun v0 => ?_)
      · have hx := ((Below.refl w0.heap.size w0).drew).trans hg
        clear hd hg
        have T := T0.out.later hx
        obtain ⟨t0, t1, t2, t3, t4, t5, t6⟩ := T.cells
        go_wp2
        exact ⟨_, rfl, Below.refl _ _, rfl⟩
      (try simp only [List.nil_append, Act.put, List.setIfInBounds_toArray, List.set_cons_zero, List.set_cons_succ])
      refine inv_cons (fun wx hg hd => ?_) (fun v1 => ?_)
      · have hx := ((Below.refl w0.heap.size w0).drew).trans hg
        (try (have ee : v0 = (.agg #[.int .i64 r, .int .i64 z.1, .int .i64 z.2] : Value) := hd 0 (by simp) (by decide); subst ee))
        clear hd hg
        go_wp2_with fail
        refine (HOC.out _).mono ?_
        rintro e w' ⟨rfl, hb⟩
        go_wp2
        exact ⟨_, rfl, hb, rfl⟩
      (try simp only [List.cons_append, List.nil_append, Act.put, List.setIfInBounds_toArray, List.set_cons_zero, List.set_cons_succ])
      refine inv_cons (fun wx hg hd => ?_) (fun v2 => ?_)
      · have hx := ((Below.refl w0.heap.size w0).drew).trans hg
        (try (have ee : v1 = (.bool true : Value) := hd 1 (by simp) (by decide); subst ee))
        clear hd hg
        go_wp2
        exact ⟨_, rfl, Below.refl _ _, rfl⟩
      (try simp only [List.cons_append, List.nil_append, Act.put, List.setIfInBounds_toArray, List.set_cons_zero, List.set_cons_succ])
      refine inv_cons (fun wx hg hd => ?_) (fun v3 => ?_)
      · have hx := ((Below.refl w0.heap.size w0).drew).trans hg
        (try (have ee : v2 = (.bool true : Value) := hd 2 (by simp) (by decide); subst ee))
        clear hd hg
        have T := T1.out.later hx
        obtain ⟨t0, t1, t2, t3, t4, t5, t6⟩ := T.cells
        go_wp2
        exact ⟨_, rfl, Below.refl _ _, rfl⟩
      (try simp only [List.cons_append, List.nil_append, Act.put, List.setIfInBounds_toArray, List.set_cons_zero, List.set_cons_succ])
      refine inv_cons (fun wx hg hd => ?_) (fun v4 => ?_)
      · have hx := ((Below.refl w0.heap.size w0).drew).trans hg
        (try (have ee : v2 = (.bool true : Value) := hd 2 (by simp) (by decide); subst ee))
        (try (have ee : v3 = (.agg #[.int .i64 s, .int .i64 y.1, .int .i64 y.2] : Value) := hd 3 (by simp) (by decide); subst ee))
        clear hd hg
        go_wp2_with fail
        refine (HOA.out _).mono ?_
        rintro e w' ⟨rfl, hb⟩
        go_wp2
        exact ⟨_, rfl, hb, rfl⟩
      (try simp only [List.cons_append, List.nil_append, Act.put, List.setIfInBounds_toArray, List.set_cons_zero, List.set_cons_succ])
      refine inv_cons (fun wx hg hd => ?_) (fun v5 => ?_)
      · have hx := ((Below.refl w0.heap.size w0).drew).trans hg
        (try (have ee : v2 = (.bool true : Value) := hd 2 (by simp) (by decide); subst ee))
        (try (have ee : v4 = (.bool false : Value) := hd 4 (by simp) (by decide); subst ee))
        clear hd hg
        go_wp2
        exact ⟨_, rfl, Below.refl _ _, rfl⟩
      (try simp only [List.cons_append, List.nil_append, Act.put, List.setIfInBounds_toArray, List.set_cons_zero, List.set_cons_succ])
      refine inv_cons (fun wx hg hd => ?_) (fun v6 => ?_)
      · have hx := ((Below.refl w0.heap.size w0).drew).trans hg
        (try (have ee : v5 = (.bool false : Value) := hd 5 (by simp) (by decide); subst ee))
        clear hd hg
        go_wp2
        exact ⟨_, rfl, Below.refl _ _, rfl⟩
      (try simp only [List.cons_append, List.nil_append, Act.put, List.setIfInBounds_toArray, List.set_cons_zero, List.set_cons_succ])
      refine inv_cons (fun wx hg hd => ?_) (fun v7 => ?_)
      · have hx := ((Below.refl w0.heap.size w0).drew).trans hg
        (try (have ee : v6 = (.bool false : Value) := hd 6 (by simp) (by decide); subst ee))
        clear hd hg
        go_wp2
        exact ⟨_, rfl, Below.refl _ _, rfl⟩
      (try simp only [List.cons_append, List.nil_append, Act.put, List.setIfInBounds_toArray, List.set_cons_zero, List.set_cons_succ])
      refine inv_cons (fun wx hg hd => ?_) (fun v8 => ?_)
      · have hx := ((Below.refl w0.heap.size w0).drew).trans hg
        (try (have ee : v6 = (.bool false : Value) := hd 6 (by simp) (by decide); subst ee))
        (try (have ee : v7 = (undef : Value) := hd 7 (by simp) (by decide); subst ee))
        clear hd hg
        go_wp2
        exact ⟨_, rfl, Below.refl _ _, rfl⟩
      (try simp only [List.cons_append, List.nil_append, Act.put, List.setIfInBounds_toArray, List.set_cons_zero, List.set_cons_succ])
      refine inv_cons (fun wx hg hd => ?_) (fun v9 => ?_)
      · have hx := ((Below.refl w0.heap.size w0).drew).trans hg
        (try (have ee : v6 = (.bool false : Value) := hd 6 (by simp) (by decide); subst ee))
        clear hd hg
        go_wp2
        exact ⟨_, rfl, Below.refl _ _, rfl⟩
      (try simp only [List.cons_append, List.nil_append, Act.put, List.setIfInBounds_toArray, List.set_cons_zero, List.set_cons_succ])
      refine inv_cons (fun wx hg hd => ?_) (fun v10 => ?_)
      · have hx := ((Below.refl w0.heap.size w0).drew).trans hg
        (try (have ee : v6 = (.bool false : Value) := hd 6 (by simp) (by decide); subst ee))
        (try (have ee : v9 = (undef : Value) := hd 9 (by simp) (by decide); subst ee))
        clear hd hg
        go_wp2
        exact ⟨_, rfl, Below.refl _ _, rfl⟩
      (try simp only [List.cons_append, List.nil_append, Act.put, List.setIfInBounds_toArray, List.set_cons_zero, List.set_cons_succ])
      refine inv_cons (fun wx hg hd => ?_) (fun v11 => ?_)
      · have hx := ((Below.refl w0.heap.size w0).drew).trans hg
        (try (have ee : v6 = (.bool false : Value) := hd 6 (by simp) (by decide); subst ee))
        (try (have ee : v8 = (undef : Value) := hd 8 (by simp) (by decide); subst ee))
        (try (have ee : v10 = (undef : Value) := hd 10 (by simp) (by decide); subst ee))
        clear hd hg
        go_wp2
        exact ⟨_, rfl, Below.refl _ _, rfl⟩
      (try simp only [List.cons_append, List.nil_append, Act.put, List.setIfInBounds_toArray, List.set_cons_zero, List.set_cons_succ])
      refine inv_cons (fun wx hg hd => ?_) (fun v12 => ?_)
      · have hx := ((Below.refl w0.heap.size w0).drew).trans hg
        (try (have ee : v6 = (.bool false : Value) := hd 6 (by simp) (by decide); subst ee))
        (try (have ee : v11 = (undef : Value) := hd 11 (by simp) (by decide); subst ee))
        clear hd hg
        go_wp2
        exact ⟨_, rfl, Below.refl _ _, rfl⟩
      (try simp only [List.cons_append, List.nil_append, Act.put, List.setIfInBounds_toArray, List.set_cons_zero, List.set_cons_succ])
      refine inv_cons (fun wx hg hd => ?_) (fun v13 => ?_)
      · have hx := ((Below.refl w0.heap.size w0).drew).trans hg
        (try (have ee : v12 = (.bool false : Value) := hd 12 (by simp) (by decide); subst ee))
        clear hd hg
        go_wp2
        exact ⟨_, rfl, Below.refl _ _, rfl⟩
      (try simp only [List.cons_append, List.nil_append, Act.put, List.setIfInBounds_toArray, List.set_cons_zero, List.set_cons_succ])
      refine inv_cons (fun wx hg hd => ?_) (fun v14 => ?_)
      · have hx := ((Below.refl w0.heap.size w0).drew).trans hg
        (try (have ee : v13 = (.bool false : Value) := hd 13 (by simp) (by decide); subst ee))
        clear hd hg
        go_wp2
        exact ⟨_, rfl, Below.refl _ _, rfl⟩
      (try simp only [List.cons_append, List.nil_append, Act.put, List.setIfInBounds_toArray, List.set_cons_zero, List.set_cons_succ])
      refine inv_cons (fun wx hg hd => ?_) (fun v15 => ?_)
      · have hx := ((Below.refl w0.heap.size w0).drew).trans hg
        (try (have ee : v13 = (.bool false : Value) := hd 13 (by simp) (by decide); subst ee))
        clear hd hg
        go_wp2
        exact ⟨_, rfl, Below.refl _ _, rfl⟩
      (try simp only [List.cons_append, List.nil_append, Act.put, List.setIfInBounds_toArray, List.set_cons_zero, List.set_cons_succ])
      refine inv_cons (fun wx hg hd => ?_) (fun v16 => ?_)
      · have hx := ((Below.refl w0.heap.size w0).drew).trans hg
        (try (have ee : v13 = (.bool false : Value) := hd 13 (by simp) (by decide); subst ee))
        (try (have ee : v15 = (undef : Value) := hd 15 (by simp) (by decide); subst ee))
        clear hd hg
        go_wp2
        exact ⟨_, rfl, Below.refl _ _, rfl⟩
      (try simp only [List.cons_append, List.nil_append, Act.put, List.setIfInBounds_toArray, List.set_cons_zero, List.set_cons_succ])
      refine inv_cons (fun wx hg hd => ?_) (fun v17 => ?_)
      · have hx := ((Below.refl w0.heap.size w0).drew).trans hg
        (try (have ee : v13 = (.bool false : Value) := hd 13 (by simp) (by decide); subst ee))
        (try (have ee : v14 = (undef : Value) := hd 14 (by simp) (by decide); subst ee))
        (try (have ee : v16 = (undef : Value) := hd 16 (by simp) (by decide); subst ee))
        clear hd hg
        go_wp2
        exact ⟨_, rfl, Below.refl _ _, rfl⟩
      (try simp only [List.cons_append, List.nil_append, Act.put, List.setIfInBounds_toArray, List.set_cons_zero, List.set_cons_succ])
      refine inv_cons (fun wx hg hd => ?_) (fun v18 => ?_)
      · have hx := ((Below.refl w0.heap.size w0).drew).trans hg
        (try (have ee : v13 = (.bool false : Value) := hd 13 (by simp) (by decide); subst ee))
        clear hd hg
        go_wp2
        exact ⟨_, rfl, Below.refl _ _, rfl⟩
      (try simp only [List.cons_append, List.nil_append, Act.put, List.setIfInBounds_toArray, List.set_cons_zero, List.set_cons_succ])
      refine inv_cons (fun wx hg hd => ?_) (fun v19 => ?_)
      · have hx := ((Below.refl w0.heap.size w0).drew).trans hg
        (try (have ee : v13 = (.bool false : Value) := hd 13 (by simp) (by decide); subst ee))
        (try (have ee : v17 = (undef : Value) := hd 17 (by simp) (by decide); subst ee))
        (try (have ee : v18 = (undef : Value) := hd 18 (by simp) (by decide); subst ee))
        clear hd hg
        go_wp2
        exact ⟨_, rfl, Below.refl _ _, rfl⟩
      (try simp only [List.cons_append, List.nil_append, Act.put, List.setIfInBounds_toArray, List.set_cons_zero, List.set_cons_succ])
      refine inv_cons (fun wx hg hd => ?_) (fun v20 => ?_)
      · have hx := ((Below.refl w0.heap.size w0).drew).trans hg
        (try (have ee : v13 = (.bool false : Value) := hd 13 (by simp) (by decide); subst ee))
        (try (have ee : v19 = (undef : Value) := hd 19 (by simp) (by decide); subst ee))
        clear hd hg
        go_wp2
        exact ⟨_, rfl, Below.refl _ _, rfl⟩
      (try simp only [List.cons_append, List.nil_append, Act.put, List.setIfInBounds_toArray, List.set_cons_zero, List.set_cons_succ])
      refine inv_cons (fun wx hg hd => ?_) (fun v21 => ?_)
      · have hx := ((Below.refl w0.heap.size w0).drew).trans hg
        (try (have ee : v20 = (.bool false : Value) := hd 20 (by simp) (by decide); subst ee))
        clear hd hg
        go_wp2
        exact ⟨_, rfl, Below.refl _ _, rfl⟩
      (try simp only [List.cons_append, List.nil_append, Act.put, List.setIfInBounds_toArray, List.set_cons_zero, List.set_cons_succ])
      refine inv_done (fun wx hg hd => ?_)
      have hx := ((Below.refl w0.heap.size w0).drew).trans hg
      (have ee : v0 = (.agg #[.int .i64 r, .int .i64 z.1, .int .i64 z.2] : Value) := hd 0 (by simp); subst ee)
      (have ee : v1 = (.bool true : Value) := hd 1 (by simp); subst ee)
      (have ee : v2 = (.bool true : Value) := hd 2 (by simp); subst ee)
      (have ee : v3 = (.agg #[.int .i64 s, .int .i64 y.1, .int .i64 y.2] : Value) := hd 3 (by simp); subst ee)
      (have ee : v4 = (.bool false : Value) := hd 4 (by simp); subst ee)
      (have ee : v5 = (.bool false : Value) := hd 5 (by simp); subst ee)
      (have ee : v6 = (.bool false : Value) := hd 6 (by simp); subst ee)
      (have ee : v7 = (undef : Value) := hd 7 (by simp); subst ee)
      (have ee : v8 = (undef : Value) := hd 8 (by simp); subst ee)
      (have ee : v9 = (undef : Value) := hd 9 (by simp); subst ee)
      (have ee : v10 = (undef : Value) := hd 10 (by simp); subst ee)
      (have ee : v11 = (undef : Value) := hd 11 (by simp); subst ee)
      (have ee : v12 = (.bool false : Value) := hd 12 (by simp); subst ee)
      (have ee : v13 = (.bool false : Value) := hd 13 (by simp); subst ee)
      (have ee : v14 = (undef : Value) := hd 14 (by simp); subst ee)
      (have ee : v15 = (undef : Value) := hd 15 (by simp); subst ee)
      (have ee : v16 = (undef : Value) := hd 16 (by simp); subst ee)
      (have ee : v17 = (undef : Value) := hd 17 (by simp); subst ee)
      (have ee : v18 = (undef : Value) := hd 18 (by simp); subst ee)
      (have ee : v19 = (undef : Value) := hd 19 (by simp); subst ee)
      (have ee : v20 = (.bool false : Value) := hd 20 (by simp); subst ee)
      (have ee : v21 = (.bool false : Value) := hd 21 (by simp); subst ee)
      clear hd hg
      (try go_simp)
      have B1 := Lib.hid (B0.out.trans (hx.mono B0.out.size))
      clear hx
      go_wp2
      go_ret
      exact ⟨rfl, B1.out⟩
  · have hW : winB r z s y = false := by unfold winB; rw [Bool.eq_false_iff.2 h1]; simp
    rw [hW]
    rw [Bool.eq_false_iff.2 h1] at HOC
    clear h1 hW
    go_enter Tryz.func67, Tryz.ntmps67
    go_upto_region 1 with (fail)
    generalize (w.alloc (.cells #[.int .i64 r, .int .i64 z.1, .int .i64 z.2] 32)).alloc (.cells #[.int .i64 s, .int .i64 y.1, .int .i64 y.2] 32) = w0 at *
    refine wp_region_inv (fun w w' => Below w.heap.size w w') (fun qi_ qv_ _ => qv_ = ([.agg #[.int .i64 r, .int .i64 z.1, .int .i64 z.2], .bool false, .bool false, undef, undef, .bool false, .bool false, undef, undef, undef, undef, undef, .bool false, .bool false, undef, undef, undef, undef, undef, undef, .bool false, .bool false] : List Value).getD qi_ undef) (by kernel_rfl) (by kernel_rfl) (fun _ => Below.refl _ _) (fun _ _ _ h1 h2 => below_later h1 h1.size h2) (fun _ _ _ _ _ _ h => h) ?_
    refine inv_cons (fun wx hg hd => ?_) (fun v0 => ?_)
    · have hx := ((Below.refl w0.heap.size w0).drew).trans hg
      clear hd hg
      have T := T0.out.later hx
      obtain ⟨t0, t1, t2, t3, t4, t5, t6⟩ := T.cells
      go_wp2
      exact ⟨_, rfl, Below.refl _ _, rfl⟩
    (try simp only [List.nil_append, Act.put, List.setIfInBounds_toArray, List.set_cons_zero, List.set_cons_succ])
    refine inv_cons (fun wx hg hd => ?_) (fun v1 => ?_)
    · have hx := ((Below.refl w0.heap.size w0).drew).trans hg
      (try (have ee : v0 = (.agg #[.int .i64 r, .int .i64 z.1, .int .i64 z.2] : Value) := hd 0 (by simp) (by decide); subst ee))
      clear hd hg
      go_wp2_with fail
      refine (HOC.out _).mono ?_
      rintro e w' ⟨rfl, hb⟩
      go_wp2
      exact ⟨_, rfl, hb, rfl⟩
    (try simp only [List.cons_append, List.nil_append, Act.put, List.setIfInBounds_toArray, List.set_cons_zero, List.set_cons_succ])
    refine inv_cons (fun wx hg hd => ?_) (fun v2 => ?_)
    · have hx := ((Below.refl w0.heap.size w0).drew).trans hg
      (try (have ee : v1 = (.bool false : Value) := hd 1 (by simp) (by decide); subst ee))
      clear hd hg
      go_wp2
      exact ⟨_, rfl, Below.refl _ _, rfl⟩
    (try simp only [List.cons_append, List.nil_append, Act.put, List.setIfInBounds_toArray, List.set_cons_zero, List.set_cons_succ])
    refine inv_cons (fun wx hg hd => ?_) (fun v3 => ?_)
    · have hx := ((Below.refl w0.heap.size w0).drew).trans hg
      (try (have ee : v2 = (.bool false : Value) := hd 2 (by simp) (by decide); subst ee))
      clear hd hg
      go_wp2
      exact ⟨_, rfl, Below.refl _ _, rfl⟩
    (try simp only [List.cons_append, List.nil_append, Act.put, List.setIfInBounds_toArray, List.set_cons_zero, List.set_cons_succ])
    refine inv_cons (fun wx hg hd => ?_) (fun v4 => ?_)
    · have hx := ((Below.refl w0.heap.size w0).drew).trans hg
      (try (have ee : v2 = (.bool false : Value) := hd 2 (by simp) (by decide); subst ee))
      (try (have ee : v3 = (undef : Value) := hd 3 (by simp) (by decide); subst ee))
      clear hd hg
      go_wp2
      exact ⟨_, rfl, Below.refl _ _, rfl⟩
    (try simp only [List.cons_append, List.nil_append, Act.put, List.setIfInBounds_toArray, List.set_cons_zero, List.set_cons_succ])
    refine inv_cons (fun wx hg hd => ?_) (fun v5 => ?_)
    · have hx := ((Below.refl w0.heap.size w0).drew).trans hg
      (try (have ee : v2 = (.bool false : Value) := hd 2 (by simp) (by decide); subst ee))
      (try (have ee : v4 = (undef : Value) := hd 4 (by simp) (by decide); subst ee))
      clear hd hg
      go_wp2
      exact ⟨_, rfl, Below.refl _ _, rfl⟩
    (try simp only [List.cons_append, List.nil_append, Act.put, List.setIfInBounds_toArray, List.set_cons_zero, List.set_cons_succ])
    refine inv_cons (fun wx hg hd => ?_) (fun v6 => ?_)
    · have hx := ((Below.refl w0.heap.size w0).drew).trans hg
      (try (have ee : v5 = (.bool false : Value) := hd 5 (by simp) (by decide); subst ee))
      clear hd hg
      go_wp2
      exact ⟨_, rfl, Below.refl _ _, rfl⟩
    (try simp only [List.cons_append, List.nil_append, Act.put, List.setIfInBounds_toArray, List.set_cons_zero, List.set_cons_succ])
    refine inv_cons (fun wx hg hd => ?_) (fun v7 => ?_)
    · have hx := ((Below.refl w0.heap.size w0).drew).trans hg
      (try (have ee : v6 = (.bool false : Value) := hd 6 (by simp) (by decide); subst ee))
      clear hd hg
      go_wp2
      exact ⟨_, rfl, Below.refl _ _, rfl⟩
    (try simp only [List.cons_append, List.nil_append, Act.put, List.setIfInBounds_toArray, List.set_cons_zero, List.set_cons_succ])
    refine inv_cons (fun wx hg hd => ?_) (fun v8 => ?_)
    · have hx := ((Below.refl w0.heap.size w0).drew).trans hg
      (try (have ee : v6 = (.bool false : Value) := hd 6 (by simp) (by decide); subst ee))
      (try (have ee : v7 = (undef : Value) := hd 7 (by simp) (by decide); subst ee))
      clear hd hg
      go_wp2
      exact ⟨_, rfl, Below.refl _ _, rfl⟩
    (try simp only [List.cons_append, List.nil_append, Act.put, List.setIfInBounds_toArray, List.set_cons_zero, List.set_cons_succ])
    refine inv_cons (fun wx hg hd => ?_) (fun v9 => ?_)
    · have hx := ((Below.refl w0.heap.size w0).drew).trans hg
      (try (have ee : v6 = (.bool false : Value) := hd 6 (by simp) (by decide); subst ee))
      clear hd hg
      go_wp2
      exact ⟨_, rfl, Below.refl _ _, rfl⟩
    (try simp only [List.cons_append, List.nil_append, Act.put, List.setIfInBounds_toArray, List.set_cons_zero, List.set_cons_succ])
    refine inv_cons (fun wx hg hd => ?_) (fun v10 => ?_)
    · have hx := ((Below.refl w0.heap.size w0).drew).trans hg
      (try (have ee : v6 = (.bool false : Value) := hd 6 (by simp) (by decide); subst ee))
      (try (have ee : v9 = (undef : Value) := hd 9 (by simp) (by decide); subst ee))
      clear hd hg
      go_wp2
      exact ⟨_, rfl, Below.refl _ _, rfl⟩
    (try simp only [List.cons_append, List.nil_append, Act.put, List.setIfInBounds_toArray, List.set_cons_zero, List.set_cons_succ])
    refine inv_cons (fun wx hg hd => ?_) (fun v11 => ?_)
    · have hx := ((Below.refl w0.heap.size w0).drew).trans hg
      (try (have ee : v6 = (.bool false : Value) := hd 6 (by simp) (by decide); subst ee))
      (try (have ee : v8 = (undef : Value) := hd 8 (by simp) (by decide); subst ee))
      (try (have ee : v10 = (undef : Value) := hd 10 (by simp) (by decide); subst ee))
      clear hd hg
      go_wp2
      exact ⟨_, rfl, Below.refl _ _, rfl⟩
    (try simp only [List.cons_append, List.nil_append, Act.put, List.setIfInBounds_toArray, List.set_cons_zero, List.set_cons_succ])
    refine inv_cons (fun wx hg hd => ?_) (fun v12 => ?_)
    · have hx := ((Below.refl w0.heap.size w0).drew).trans hg
      (try (have ee : v6 = (.bool false : Value) := hd 6 (by simp) (by decide); subst ee))
      (try (have ee : v11 = (undef : Value) := hd 11 (by simp) (by decide); subst ee))
      clear hd hg
      go_wp2
      exact ⟨_, rfl, Below.refl _ _, rfl⟩
    (try simp only [List.cons_append, List.nil_append, Act.put, List.setIfInBounds_toArray, List.set_cons_zero, List.set_cons_succ])
    refine inv_cons (fun wx hg hd => ?_) (fun v13 => ?_)
    · have hx := ((Below.refl w0.heap.size w0).drew).trans hg
      (try (have ee : v12 = (.bool false : Value) := hd 12 (by simp) (by decide); subst ee))
      clear hd hg
      go_wp2
      exact ⟨_, rfl, Below.refl _ _, rfl⟩
    (try simp only [List.cons_append, List.nil_append, Act.put, List.setIfInBounds_toArray, List.set_cons_zero, List.set_cons_succ])
    refine inv_cons (fun wx hg hd => ?_) (fun v14 => ?_)
    · have hx := ((Below.refl w0.heap.size w0).drew).trans hg
      (try (have ee : v13 = (.bool false : Value) := hd 13 (by simp) (by decide); subst ee))
      clear hd hg
      go_wp2
      exact ⟨_, rfl, Below.refl _ _, rfl⟩
    (try simp only [List.cons_append, List.nil_append, Act.put, List.setIfInBounds_toArray, List.set_cons_zero, List.set_cons_succ])
    refine inv_cons (fun wx hg hd => ?_) (fun v15 => ?_)
    · have hx := ((Below.refl w0.heap.size w0).drew).trans hg
      (try (have ee : v13 = (.bool false : Value) := hd 13 (by simp) (by decide); subst ee))
      clear hd hg
      go_wp2
      exact ⟨_, rfl, Below.refl _ _, rfl⟩
    (try simp only [List.cons_append, List.nil_append, Act.put, List.setIfInBounds_toArray, List.set_cons_zero, List.set_cons_succ])
    refine inv_cons (fun wx hg hd => ?_) (fun v16 => ?_)
    · have hx := ((Below.refl w0.heap.size w0).drew).trans hg
      (try (have ee : v13 = (.bool false : Value) := hd 13 (by simp) (by decide); subst ee))
      (try (have ee : v15 = (undef : Value) := hd 15 (by simp) (by decide); subst ee))
      clear hd hg
      go_wp2
      exact ⟨_, rfl, Below.refl _ _, rfl⟩
    (try simp only [List.cons_append, List.nil_append, Act.put, List.setIfInBounds_toArray, List.set_cons_zero, List.set_cons_succ])
    refine inv_cons (fun wx hg hd => ?_) (fun v17 => ?_)
    · have hx := ((Below.refl w0.heap.size w0).drew).trans hg
      (try (have ee : v13 = (.bool false : Value) := hd 13 (by simp) (by decide); subst ee))
      (try (have ee : v14 = (undef : Value) := hd 14 (by simp) (by decide); subst ee))
      (try (have ee : v16 = (undef : Value) := hd 16 (by simp) (by decide); subst ee))
      clear hd hg
      go_wp2
      exact ⟨_, rfl, Below.refl _ _, rfl⟩
    (try simp only [List.cons_append, List.nil_append, Act.put, List.setIfInBounds_toArray, List.set_cons_zero, List.set_cons_succ])
    refine inv_cons (fun wx hg hd => ?_) (fun v18 => ?_)
    · have hx := ((Below.refl w0.heap.size w0).drew).trans hg
      (try (have ee : v13 = (.bool false : Value) := hd 13 (by simp) (by decide); subst ee))
      clear hd hg
      go_wp2
      exact ⟨_, rfl, Below.refl _ _, rfl⟩
    (try simp only [List.cons_append, List.nil_append, Act.put, List.setIfInBounds_toArray, List.set_cons_zero, List.set_cons_succ])
    refine inv_cons (fun wx hg hd => ?_) (fun v19 => ?_)
    · have hx := ((Below.refl w0.heap.size w0).drew).trans hg
      (try (have ee : v13 = (.bool false : Value) := hd 13 (by simp) (by decide); subst ee))
      (try (have ee : v17 = (undef : Value) := hd 17 (by simp) (by decide); subst ee))
      (try (have ee : v18 = (undef : Value) := hd 18 (by simp) (by decide); subst ee))
      clear hd hg
      go_wp2
      exact ⟨_, rfl, Below.refl _ _, rfl⟩
    (try simp only [List.cons_append, List.nil_append, Act.put, List.setIfInBounds_toArray, List.set_cons_zero, List.set_cons_succ])
    refine inv_cons (fun wx hg hd => ?_) (fun v20 => ?_)
    · have hx := ((Below.refl w0.heap.size w0).drew).trans hg
      (try (have ee : v13 = (.bool false : Value) := hd 13 (by simp) (by decide); subst ee))
      (try (have ee : v19 = (undef : Value) := hd 19 (by simp) (by decide); subst ee))
      clear hd hg
      go_wp2
      exact ⟨_, rfl, Below.refl _ _, rfl⟩
    (try simp only [List.cons_append, List.nil_append, Act.put, List.setIfInBounds_toArray, List.set_cons_zero, List.set_cons_succ])
    refine inv_cons (fun wx hg hd => ?_) (fun v21 => ?_)
    · have hx := ((Below.refl w0.heap.size w0).drew).trans hg
      (try (have ee : v20 = (.bool false : Value) := hd 20 (by simp) (by decide); subst ee))
      clear hd hg
      go_wp2
      exact ⟨_, rfl, Below.refl _ _, rfl⟩
    (try simp only [List.cons_append, List.nil_append, Act.put, List.setIfInBounds_toArray, List.set_cons_zero, List.set_cons_succ])
    refine inv_done (fun wx hg hd => ?_)
    have hx := ((Below.refl w0.heap.size w0).drew).trans hg
    (have ee : v0 = (.agg #[.int .i64 r, .int .i64 z.1, .int .i64 z.2] : Value) := hd 0 (by simp); subst ee)
    (have ee : v1 = (.bool false : Value) := hd 1 (by simp); subst ee)
    (have ee : v2 = (.bool false : Value) := hd 2 (by simp); subst ee)
    (have ee : v3 = (undef : Value) := hd 3 (by simp); subst ee)
    (have ee : v4 = (undef : Value) := hd 4 (by simp); subst ee)
    (have ee : v5 = (.bool false : Value) := hd 5 (by simp); subst ee)
    (have ee : v6 = (.bool false : Value) := hd 6 (by simp); subst ee)
    (have ee : v7 = (undef : Value) := hd 7 (by simp); subst ee)
    (have ee : v8 = (undef : Value) := hd 8 (by simp); subst ee)
    (have ee : v9 = (undef : Value) := hd 9 (by simp); subst ee)
    (have ee : v10 = (undef : Value) := hd 10 (by simp); subst ee)
    (have ee : v11 = (undef : Value) := hd 11 (by simp); subst ee)
    (have ee : v12 = (.bool false : Value) := hd 12 (by simp); subst ee)
    (have ee : v13 = (.bool false : Value) := hd 13 (by simp); subst ee)
    (have ee : v14 = (undef : Value) := hd 14 (by simp); subst ee)
    (have ee : v15 = (undef : Value) := hd 15 (by simp); subst ee)
    (have ee : v16 = (undef : Value) := hd 16 (by simp); subst ee)
    (have ee : v17 = (undef : Value) := hd 17 (by simp); subst ee)
    (have ee : v18 = (undef : Value) := hd 18 (by simp); subst ee)
    (have ee : v19 = (undef : Value) := hd 19 (by simp); subst ee)
    (have ee : v20 = (.bool false : Value) := hd 20 (by simp); subst ee)
    (have ee : v21 = (.bool false : Value) := hd 21 (by simp); subst ee)
    clear hd hg
    (try go_simp)
    have B1 := Lib.hid (B0.out.trans (hx.mono B0.out.size))
    clear hx
    go_wp2
    go_ret
    exact ⟨rfl, B1.out⟩
end Go.Proofs.YtkjfdaleamonaaaGreat
/- The map of a row as a partial function from IDs to places. -/
namespace Go.Proofs.YtkjfdaleamonaaaGreat
open Go.RowKit Go.Lib
open Go.Maps (Keyed)
open Go.ChangeMaps (setBlock heap_setBlock_same heap_setBlock_other)
open Go.WideElems (findIdx_arr findIdx_born)

theorem keyed_u : Keyed Tryz.prog 25 := Maps.int_keyed Tryz.underlying25
theorem key_u {id : Int} (h : (Lit.int .u64 id).wf = true) : keyOf Tryz.prog 25 (.int .u64 id) = some (.int .u64 id) := Maps.keyOf_int_mk Tryz.underlying25 h
theorem zero_i (w : World) : (zeroValue 3).run Tryz.prog w = .ok (.int .i64 0) w := by kernel_rfl
theorem elem_i {v : Int} (h : (Lit.int .i64 v).wf = true) : plainElem (H := Unit) Tryz.prog 3 (.int .i64 v) = some (.lit (.int .i64 v), []) := plainElem_int Tryz.underlying3 h

def upd (f : Int → Option Int) (id : Int) (v : Option Int) : Int → Option Int := fun x => if x = id then v else f x
/-- Block b is a map of m entries: f. -/
def MapIs (w : World) (b : Nat) (f : Int → Option Int) (m : Nat) : Prop :=
  ∃ D : DataW Unit, w.ownsMap Tryz.prog 25 (plainElem Tryz.prog 3) b m D ∧ Maps.size D = m ∧
    ∀ id, (Lit.int .u64 id).wf = true → Maps.has D (.int .u64 id) = (f id).isSome ∧ D.atKey (.int .u64 id) (.lit (.int .i64 0)) = .lit (.int .i64 ((f id).getD 0))

theorem MapIs.heap {w w' : World} {b m : Nat} {f : Int → Option Int} (h : MapIs w b f m) (hb : w'.heap[b]? = w.heap[b]?) : MapIs w' b f m := by
  obtain ⟨D, ⟨es, clock, h1, h2⟩, h3⟩ := h
  exact ⟨D, ⟨es, clock, by rw [hb]; exact h1, h2⟩, h3⟩
theorem MapIs.lt {w : World} {b m : Nat} {f : Int → Option Int} (h : MapIs w b f m) : b < w.heap.size := by
  obtain ⟨D, h1, _⟩ := h
  exact h1.lt
theorem MapIs.notCells {w : World} {b m : Nat} {f : Int → Option Int} (h : MapIs w b f m) {cs : Array Value} {t : TypeId} {fr : Nat × Nat} : w.heap[b]? ≠ some (.cells cs t fr) := fun e => by
  obtain ⟨D, ⟨es, clock, h1, _⟩, _⟩ := h
  rw [h1] at e
  cases e
theorem mapIs_new (w : World) : MapIs (w.alloc (.map #[] 0)) w.heap.size (fun _ => none) 0 :=
  ⟨.map [], World.ownsMap_made w _ _ _, rfl, fun _ _ => ⟨rfl, rfl⟩⟩
theorem tight {w : World} {b n : Nat} {D : DataW Unit} (h : w.ownsMap Tryz.prog 25 (plainElem Tryz.prog 3) b n D) : w.ownsMap Tryz.prog 25 (plainElem Tryz.prog 3) b (Maps.size D) D := by
  obtain ⟨es, clock, h1, F, h2, rfl⟩ := h
  refine ⟨es, clock, h1, F, ?_, rfl⟩
  rw [Maps.size_eq, length_sorted, List.length_map]
  simp

/-- v, ok := m[id] -/
theorem MapIs.look {w : World} {b m : Nat} {f : Int → Option Int} (h : MapIs w b f m) {id : Int} (hid : (Lit.int .u64 id).wf = true) :
    (Instr.lookup 96 (.map (some b)) (.int .u64 id) true).run Tryz.prog w = .ok (.tuple #[.int .i64 ((f id).getD 0), .bool (f id).isSome]) w := by
  obtain ⟨D, h1, _, h3⟩ := h
  obtain ⟨v, ps, hr, hv⟩ := h1.look_ok keyed_u Tryz.underlying96 (zero_i w) (elem_i (v := 0) (by decide)) (key_u hid)
  obtain ⟨c, rfl, hc, _⟩ := plainElem_int_inv Tryz.underlying3 hv
  rw [hr, (h3 id hid).1]
  have h4 := (h3 id hid).2
  simp only [Prod.mk.injEq] at hc
  rw [hc.1] at h4
  simp only [DataW.lit.injEq, Lit.int.injEq, true_and] at h4
  rw [h4]

theorem mapIs_put {w : World} {b m n : Nat} {f : Int → Option Int} {D : DataW Unit} (ht : Maps.Tidy D) (hs : Maps.size D = m) (h3 : ∀ id, (Lit.int .u64 id).wf = true → Maps.has D (.int .u64 id) = (f id).isSome ∧ D.atKey (.int .u64 id) (.lit (.int .i64 0)) = .lit (.int .i64 ((f id).getD 0)))
    {id v : Int} (hid : (Lit.int .u64 id).wf = true) (h : w.ownsMap Tryz.prog 25 (plainElem Tryz.prog 3) b n (D.put (.int .u64 id) (.lit (.int .i64 v)))) :
    MapIs w b (upd f id (some v)) (if (f id).isSome then m else m + 1) := by
  have hk : WideAt.IsKeyLit (.int .u64 id) := by simp [WideAt.IsKeyLit]
  refine ⟨D.put (.int .u64 id) (.lit (.int .i64 v)), ?_, ?_, fun id' hid' => ?_⟩
  · have e : Maps.size (D.put (.int .u64 id) (.lit (.int .i64 v))) = if (f id).isSome then m else m + 1 := by
      rw [Maps.size_put (k := .int .u64 id) ht, (h3 id hid).1, hs]
    rw [← e]
    exact tight h
  · rw [Maps.size_put (k := .int .u64 id) ht, (h3 id hid).1, hs]
  · unfold upd
    by_cases e : id' = id
    · subst e
      rw [if_pos rfl, Maps.has_put_same ht.isMap hk, Maps.atKey_put_same ht.isMap hk]
      exact ⟨rfl, rfl⟩
    · have hne : (Lit.int .u64 id') ≠ .int .u64 id := fun h => e (by cases h; rfl)
      rw [if_neg e, Maps.has_put_other hne, Maps.atKey_put_other hne]
      exact h3 id' hid'
/-- m[id] = v -/
theorem MapIs.put {w : World} {b m : Nat} {f : Int → Option Int} (h : MapIs w b f m) (hm : m < maxLen) {id v : Int} (hid : (Lit.int .u64 id).wf = true) (hv : (Lit.int .i64 v).wf = true) :
    ∃ w', (Instr.mapUpdate 96 (.map (some b)) (.int .u64 id) (.int .i64 v)).run Tryz.prog w = .ok () w' ∧ MapIs w' b (upd f id (some v)) (if (f id).isSome then m else m + 1) ∧ w.mapTurned w' b := by
  obtain ⟨D, h1, h2, h3⟩ := h
  obtain ⟨w', hr, ho, ht⟩ := h1.store keyed_u Tryz.underlying96 hm (key_u hid) (elem_i hv)
  exact ⟨w', hr, mapIs_put (h1.tidy keyed_u) h2 h3 hid ho, ht⟩
/-- delete(m, id) -/
theorem MapIs.del {w : World} {b m : Nat} {f : Int → Option Int} (h : MapIs w b f m) {id : Int} (hid : (Lit.int .u64 id).wf = true) (hf : (f id).isSome = true) (ty : TypeId) :
    ∃ w', (Builtin.delete_ #[96, 25] ty #[.map (some b), .int .u64 id]).run Tryz.prog w = .ok (.tuple #[]) w' ∧ MapIs w' b (upd f id none) (m - 1) ∧ w.mapTurned w' b := by
  obtain ⟨D, h1, h2, h3⟩ := h
  obtain ⟨w', hr, ho, ht⟩ := h1.drop keyed_u Tryz.underlying96 (key_u hid) ty
  have hsz := Maps.size_del (k := .int .u64 id) (h1.tidy keyed_u)
  rw [(h3 id hid).1, hf, if_pos rfl, h2] at hsz
  refine ⟨w', hr, ⟨D.del (.int .u64 id), ?_, by omega, fun id' hid' => ?_⟩, ht⟩
  · have e : Maps.size (D.del (.int .u64 id)) = m - 1 := by omega
    rw [← e]
    exact tight ho
  · unfold upd
    by_cases e : id' = id
    · subst e
      rw [if_pos rfl, Maps.has_del_same, Maps.atKey_del_same]
      exact ⟨rfl, rfl⟩
    · have hne : (Lit.int .u64 id') ≠ .int .u64 id := fun h => e (by cases h; rfl)
      rw [if_neg e, Maps.has_del_other hne, Maps.atKey_del_other hne]
      exact h3 id' hid'
theorem modify_same {α : Type} (es : Array α) (j : Nat) (e0 : α) (g : α → α) (h : es[j]? = some e0) (hg : g e0 = e0) : es.modify j g = es := by
  apply Array.ext_getElem?
  intro i
  rw [Array.getElem?_modify]
  by_cases e : j = i
  · subst e; simp [h, hg]
  · simp [e]
/-- m[id] = v in two steps, as a tuple's assignment goes, where id is there. -/
theorem MapIs.entry {w : World} {b m : Nat} {f : Int → Option Int} (h : MapIs w b f m) (hm : m < maxLen) {id : Int} (hid : (Lit.int .u64 id).wf = true) (hf : (f id).isSome = true) :
    ∃ v0 st, (Instr.mapEntry 96 (.map (some b)) (.int .u64 id)).run Tryz.prog w = .ok (.tuple #[v0, .int .i64 st]) w ∧
      ∀ v, (Lit.int .i64 v).wf = true → ∃ w2, (Instr.entryStore 96 (.map (some b)) (.int .i64 st) (.int .i64 v)).run Tryz.prog w = .ok () w2 ∧ MapIs w2 b (upd f id (some v)) m ∧ w.mapTurned w2 b := by
  obtain ⟨D, h1, h2, h3⟩ := h
  have htd := h1.tidy keyed_u
  have hhas : Maps.has D (.int .u64 id) = true := by rw [(h3 id hid).1]; exact hf
  obtain ⟨es, clock, hb, F, hs, hD⟩ := h1
  have h1' : w.ownsMap Tryz.prog 25 (plainElem Tryz.prog 3) b m D := ⟨es, clock, hb, F, hs, hD⟩
  rcases keyed_u.find w (key_u hid) es.toList F.keys with ⟨_, g2⟩ | ⟨j, e0, g1, g2, g3⟩
  · exfalso
    rcases Maps.fit_look true keyed_u Tryz.underlying96 (zero_i w) hb F (key_u hid) with ⟨_, _, hat⟩ | ⟨e0, y, he, hk, _⟩
    · rw [hD] at hhas
      rw [Maps.has_false_of_atKey hat] at hhas
      cases hhas
    · exact g2 e0 he hk
  · have hj : es[j]? = some e0 := by simpa using g2
    have hsame : es.modify j (fun e => { e with key := .int .u64 id }) = es := modify_same es j e0 _ hj (by rw [← g3])
    have hidx : es.findIdx? (fun e => ((e.born : Nat) : Int) == ((e0.born : Nat) : Int)) = some j := by
      rw [findIdx_arr]
      exact findIdx_born F.stamped.2.1 g2
    have hset : setBlock w b (.map es clock) = w := by
      have e : w.heap.setIfInBounds b (.map es clock) = w.heap := by
        apply Array.ext_getElem?
        intro i
        by_cases hi : i = b
        · subst hi
          exact (heap_setBlock_same hb _).trans hb.symm
        · exact heap_setBlock_other hb _ hi
      unfold setBlock
      rw [e]
    refine ⟨e0.val, (e0.born : Int), ?_, fun v hv => ?_⟩
    · have : (Instr.mapEntry 96 (.map (some b)) (.int .u64 id)).run Tryz.prog w = .ok (.tuple #[e0.val, .int .i64 (e0.born : Int)]) (setBlock w b (.map es clock)) := by
        simp [Instr.mapEntry, run_underlying Tryz.underlying96, MapKept.run_getObj_map hb, keyed_u.check w false (key_u hid), g1, hj, g3, keyed_u.stays w (key_u hid), hsame, MapKept.run_setObj_map _ hb, Result.andThen, setBlock, goInt]
      rw [hset] at this
      exact this
    · obtain ⟨w', hr4, ho, ht⟩ := h1'.store keyed_u Tryz.underlying96 hm (key_u hid) (elem_i hv)
      have hmod : es.modify j (fun e' => { e' with key := .int .u64 id, val := .int .i64 v }) = es.modify j (fun e' => { e' with val := .int .i64 v }) := by
        apply Array.ext_getElem?
        intro i
        rw [Array.getElem?_modify, Array.getElem?_modify]
        by_cases e : j = i
        · subst e; simp [hj, ← g3]
        · simp [e]
      have hu : (Instr.mapUpdate 96 (.map (some b)) (.int .u64 id) (.int .i64 v)).run Tryz.prog w = .ok () (setBlock w b (.map (es.modify j (fun e' => { e' with val := .int .i64 v })) clock)) := by
        simp [Instr.mapUpdate, run_underlying Tryz.underlying96, MapKept.run_getObj_map hb, keyed_u.check w false (key_u hid), g1, hj, g3, keyed_u.stays w (key_u hid), hmod, MapKept.run_setObj_map _ hb, Result.andThen, setBlock]
      rw [hu] at hr4
      cases hr4
      refine ⟨setBlock w b (.map (es.modify j (fun e' => { e' with val := .int .i64 v })) clock), ?_, ?_, ht⟩
      · simp [Instr.entryStore, MapKept.run_getObj_map hb, asInt, asIntOf, hidx, MapKept.run_setObj_map _ hb, Result.andThen, setBlock]
      · have := mapIs_put htd h2 h3 hid ho
        rwa [hf, if_pos rfl] at this
end Go.Proofs.YtkjfdaleamonaaaGreat
