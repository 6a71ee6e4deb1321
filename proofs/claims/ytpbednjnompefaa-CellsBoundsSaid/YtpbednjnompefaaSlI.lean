/- More calls at entries of one world: with the error told; apiaryref1.Set and Has; append of words; two rows apart. -/
import Derived.Test.YtpbednjnompefaaSlH
import Derived.Maps.AppendAt
import Derived.Laws.OwnMore
import Derived.Lib.AppendZeros
namespace Go.Proofs.Ytpbednjnompefaa
open Go.RowKit Go.Lib Go.Sort

def NewE (w : World) (L : List Ent) (z : Nat) (l : List Int) (err : Int) (e : Ending) (w' : World) : Prop :=
  ∃ ao n c, e = .returned (.tuple #[.slice ao n c, .int .i64 err]) ∧ Env w' ((ao, n, c, z, l) :: L) ∧ Below w.heap.size w w'
theorem union_err {w : World} {L : List Ent} (H : Env w L) {ao bo : Option Addr} {n c m d y z : Nat} {a b : List Int} (ha : (ao, n, c, y, a) ∈ L) (hb : (bo, m, d, z, b) ∈ L) (hy : y + z ≤ 1000000) :
    Calls Try.prog 9 #[.slice ao n c, .slice bo m d] w (NewE w L (y + z) (unionL a b) (unionE a b)) := by
  obtain ⟨h1, rfl, h3, h4⟩ := H.get ha
  obtain ⟨k1, rfl, k3, k4⟩ := H.get hb
  refine (union_any ao bo c d a b w h1 k1 h4 k4 (by omega) (by omega)).mono ?_
  rintro e w' ⟨ro, rc, rfl, hw, hbl, hz⟩
  exact ⟨ro, _, rc, rfl, (H.later hbl).cons ⟨hw, rfl, by have := unionL_length (a := a) (b := b); omega, nil_both hw hz⟩, hbl⟩
theorem meet_err {w : World} {L : List Ent} (H : Env w L) {ao bo : Option Addr} {n c m d y z : Nat} {a b : List Int} (ha : (ao, n, c, y, a) ∈ L) (hb : (bo, m, d, z, b) ∈ L) (hy : y + z ≤ 1000000) :
    Calls Try.prog 10 #[.slice ao n c, .slice bo m d] w (NewE w L y (sideL (fun x => hasF (setF b) x) a b) (sideE a b)) := by
  obtain ⟨h1, rfl, h3, h4⟩ := H.get ha
  obtain ⟨k1, rfl, k3, k4⟩ := H.get hb
  refine (meet_any ao bo c d a b w h1 k1 (by omega) (by omega)).mono ?_
  rintro e w' ⟨ro, rc, rfl, hw, hbl, hz⟩
  exact ⟨ro, _, rc, rfl, (H.later hbl).cons ⟨hw, rfl, by have := sideL_length (fun x => hasF (setF b) x) a b; omega, nil_both hw hz⟩, hbl⟩
theorem minus_err {w : World} {L : List Ent} (H : Env w L) {ao bo : Option Addr} {n c m d y z : Nat} {a b : List Int} (ha : (ao, n, c, y, a) ∈ L) (hb : (bo, m, d, z, b) ∈ L) (hy : y + z ≤ 1000000) :
    Calls Try.prog 11 #[.slice ao n c, .slice bo m d] w (NewE w L y (sideL (fun x => !hasF (setF b) x) a b) (sideE a b)) := by
  obtain ⟨h1, rfl, h3, h4⟩ := H.get ha
  obtain ⟨k1, rfl, k3, k4⟩ := H.get hb
  refine (minus_any ao bo c d a b w h1 k1 (by omega) (by omega)).mono ?_
  rintro e w' ⟨ro, rc, rfl, hw, hbl, hz⟩
  exact ⟨ro, _, rc, rfl, (H.later hbl).cons ⟨hw, rfl, by have := sideL_length (fun x => !hasF (setF b) x) a b; omega, nil_both hw hz⟩, hbl⟩
def NewS (w : World) (L : List Ent) (z : Nat) (l : List Int) (e : Ending) (w' : World) : Prop :=
  ∃ ao n c, e = .returned (.slice ao n c) ∧ Env w' ((ao, n, c, z, l) :: L) ∧ Below w.heap.size w w'
theorem rset_env {w : World} {L : List Ent} (H : Env w L) {ao : Option Addr} {n c y : Nat} {a : List Int} (ha : (ao, n, c, y, a) ∈ L) (hy : y ≤ 1000000) :
    Calls Try.prog 13 #[.slice ao n c] w (NewS w L y (setF a)) := by
  obtain ⟨h1, rfl, h3, h4⟩ := H.get ha
  refine (rset_any ao c a w h1 (by omega)).mono ?_
  rintro e w' ⟨ro, rc, rfl, hw, hbl, hz⟩
  exact ⟨ro, _, rc, rfl, (H.later hbl).cons ⟨hw, rfl, by have := setF_length a; omega, nil_both hw hz⟩, hbl⟩
theorem has_env {w : World} {L : List Ent} (H : Env w L) {ao : Option Addr} {n c y : Nat} {a : List Int} (x : Int) (ha : (ao, n, c, y, a) ∈ L) (hy : y ≤ 1000000) :
    Calls Try.prog 12 #[.slice ao n c, .int .u64 x] w fun e w' => e = .returned (.bool (hasF a x)) ∧ w = w' := by
  obtain ⟨h1, rfl, h3, h4⟩ := H.get ha
  exact uhas_any ao c a x w _ h1 (by omega)
theorem rhas_env {w : World} {L : List Ent} (H : Env w L) {ao : Option Addr} {n c y : Nat} {a : List Int} (x : Int) (ha : (ao, n, c, y, a) ∈ L) (hy : y ≤ 1000000) (hr : Rising a) :
    Calls Try.prog 14 #[.slice ao n c, .int .u64 x] w fun e w' => e = .returned (.bool (hasF a x)) ∧ w = w' := by
  obtain ⟨h1, rfl, h3, h4⟩ := H.get ha
  exact rhas_any ao c a x w _ h1 (by omega) hr
theorem same_true {w : World} {L : List Ent} (H : Env w L) {ao bo : Option Addr} {n c m d y z : Nat} {a b : List Int} (ha : (ao, n, c, y, a) ∈ L) (hb : (bo, m, d, z, b) ∈ L) (hy : y ≤ 1000000) (e : a = b) :
    Calls Try.prog 15 #[.slice ao n c, .slice bo m d] w fun e w' => e = .returned (.bool true) ∧ Env w' L ∧ Below w.heap.size w w' := by
  have h := same_env H ha hb hy
  rw [decide_eq_true e] at h
  exact h
/-- A row of a call's own as an entry. -/
theorem own_ent {w : World} {base n c z : Nat} {ao : Option Addr} {l : List Int} (hn : n = l.length) (hz : n ≤ z) (h : w.ownsRow base 23 1 (.slice ao n c) n (uV l)) : EntOk w ao n c z l :=
  ⟨words_own hn h, hn.symm, hz, by have := nil_both (words_own hn h) (own_nil h); rwa [← hn] at this⟩
/-- append of words that lie anywhere to a row of the call's own. -/
theorem append_words {w : World} {base n m c : Nat} {v : Value} {xs l : List Int} {ao : Option Addr} (hown : w.ownsRow base 23 1 v n (uV xs)) (hw : WordsAt w w.heap.size ao l) (hl : l.length = m) (hz : ao = none → m = 0 ∧ c = 0) (hb : base ≤ w.heap.size) (hn : n + m ≤ 1000000) :
    ∃ v' w', (Builtin.append_ #[22, 22] 22 #[v, .slice ao m c]).run Try.prog w = .ok v' w' ∧ w'.ownsRow base 23 1 v' (n + m) (uV (xs ++ l)) ∧ w.grownBy w' v.ownBlock := by
  obtain ⟨i0, hi, hz0, hz1, hz2⟩ := info_parts info_u
  have hu : uV (xs ++ l) = uV xs ++ uV l := by simp [uV]
  cases ao with
  | none =>
    obtain ⟨rfl, rfl⟩ := hz rfl
    obtain rfl : l = [] := List.eq_nil_of_length_eq_zero hl
    refine ⟨v, w, run_append_owned_none w base 22 22 23 i0 1 Try.underlying22 hi v n (uV xs) hown, by simpa using hown, ⟨rfl, rfl, rfl, Nat.le_refl _, fun _ _ _ => rfl⟩⟩
  | some ad =>
    obtain ⟨v', w', hr, h2, h3, _⟩ := run_append_own w base 22 22 23 i0 (.int .u64 0) 1 8 Try.underlying22 hi hz0 hz1 hz2 rfl (by decide) v n (uV xs) hown ad m c (uV l) (by rw [uV_len, hl, Nat.mul_one]) (words_news hw ad rfl) (uV_cell l) (by unfold maxLen; omega) (by omega) hb
    exact ⟨v', w', hr, by rw [hu]; exact h2, h3⟩
/-- append under a guard that is wanted, its run known. -/
theorem wpList_append_want {P : Program} (w : World) {ops : Array Oper} {rest : List Oper} {o : Oper} {a : Act} {Q : Exit → Act → World → Prop} (hgd : Region.wanted o (yielded ops a.tmps) = true) (s x : Operand) (t tn : TypeId)
    (ho : o.op = .call { callee := .builtin .append, args := #[s, x], argTypes := #[t, tn] }) (vs vx : Value) (hs : a.eval s = vs) (hx : a.eval x = vx)
    (v' : Value) (w' : World) (hr : (Builtin.append_ #[t, tn] o.type #[vs, vx]).run P w = .ok v' w') (h : wpList P ops Q rest (a.put o.dst v') w') : wpList P ops Q (o :: rest) a w := by
  unfold wpList
  rw [if_pos hgd]
  exact .inl (wp_append_run w s x t tn ho vs vx hs hx v' w' hr h)
/-- Two rows lie in blocks of their own. -/
def Apart (v u : Value) : Prop := ∀ k, v.ownBlock = some k → u.ownBlock ≠ some k
theorem Apart.symm {v u : Value} (h : Apart v u) : Apart u v := fun k h1 h2 => h k h2 h1
theorem Apart.ne {v u : Value} (h : Apart v u) : v.ownBlock = none ∨ v.ownBlock ≠ u.ownBlock := by
  cases e : v.ownBlock with
  | none => exact .inl rfl
  | some k => exact .inr fun e2 => h k e e2.symm
theorem _root_.Go.World.ownsRow.lt_size {w : World} {base : Nat} {e : TypeId} {size : Nat} {v : Value} {n : Nat} {xs : List Value} (h : w.ownsRow base e size v n xs) : ∀ k, v.ownBlock = some k → k < w.heap.size := fun k hk => (h.lt k hk).2
theorem Apart.step {v v' u : Value} {g : Nat} (h : Apart v u) (hv : v'.ownBlock = v.ownBlock ∨ v'.ownBlock = some g) (hu : ∀ k, u.ownBlock = some k → k < g) : Apart v' u := fun k h1 h2 => by
  rcases hv with e | e
  · exact h k (e.symm.trans h1) h2
  · have := hu k h2
    rw [e] at h1
    cases h1
    omega
end Go.Proofs.Ytpbednjnompefaa
