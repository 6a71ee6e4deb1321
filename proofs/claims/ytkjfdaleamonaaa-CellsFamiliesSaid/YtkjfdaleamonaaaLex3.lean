/- The law for a region that draws its order: the closed look, and the law. -/
import Derived.Test.YtkjfdaleamonaaaLex2
namespace Go.Proofs.Ytkjfdaleamonaaa
open Go

section
variable {P : Program} {ops : Array Oper} {K : Act → World → Prop}

/-- The operations of a list of places, one behind the other. -/
def walkG (P : Program) (ops : Array Oper) (K : Act → World → Prop) : List Nat → Act → World → Prop
  | [], a, w => K a w
  | i :: r, a, w => stepG P ops i (walkG P ops K r) a w

/-- Two places may change. -/
def mayChange (ops : Array Oper) (i t : Nat) : Prop :=
  ∀ oi ot, ops[i]? = some oi → ops[t]? = some ot → oi.apart ops ot = true ∧ (kindOf oi.op = 0 ∨ kindOf ot.op = 0 ∨ (kindOf oi.op ≤ 1 ∧ kindOf ot.op ≤ 1))

theorem walkG_first (hsel : Region.noSelect ops = true) {i : Nat} (hlt : i < ops.size) : ∀ (τ ρ : List Nat) (a : Act) (w : World), (∀ t ∈ τ, t < ops.size ∧ mayChange ops t i) →
    walkG P ops K (τ ++ i :: ρ) a w → stepG P ops i (walkG P ops K (τ ++ ρ)) a w
  | [], ρ, a, w, _, h => h
  | t :: τ, ρ, a, w, hτ, h => by
    obtain ⟨ht, hc⟩ := hτ t (by simp)
    have h1 : stepG P ops t (stepG P ops i (walkG P ops K (τ ++ ρ))) a w :=
      stepG_mono (fun a' w' h' => walkG_first hsel hlt τ ρ a' w' (fun x hx => hτ x (by simp [hx])) h') h
    have e1 : ops[t]? = some ops[t] := Array.getElem?_eq_getElem ht
    have e2 : ops[i]? = some ops[i] := Array.getElem?_eq_getElem hlt
    obtain ⟨hap, hk⟩ := hc _ _ e1 e2
    exact stepG_swap e1 e2 hap (fun cs b => Region.noSelect_spec hsel t _ cs b e1) (fun cs b => Region.noSelect_spec hsel i _ cs b e2) hk h1

/-- The places not yet taken, in the order of the text. -/
def rem (ops : Array Oper) (listed : Array Bool) : List Nat := (List.range ops.size).filter fun i => !listed.getD i true

theorem mem_rem {listed : Array Bool} {i : Nat} : i ∈ rem ops listed ↔ i < ops.size ∧ listed.getD i true = false := by
  simp [rem]

theorem rem_split {listed : Array Bool} (hs : listed.size = ops.size) {i : Nat} (hi : i ∈ rem ops listed) :
    ∃ τ ρ, rem ops listed = τ ++ i :: ρ ∧ rem ops (listed.setIfInBounds i true) = τ ++ ρ ∧ ∀ t ∈ τ, t < i ∧ t ∈ rem ops listed := by
  obtain ⟨hlt, hun⟩ := mem_rem.1 hi
  have hr : List.range ops.size = List.range i ++ i :: List.range' (i + 1) (ops.size - i - 1) := by
    rw [List.range_eq_range', List.range_eq_range']
    have h1 : List.range' 0 ops.size = List.range' 0 i ++ List.range' (0 + 1 * i) (ops.size - i) := by
      rw [List.range'_append]
      congr 1
      omega
    rw [h1]
    congr 1
    rw [show ops.size - i = (ops.size - i - 1) + 1 from by omega, List.range'_succ]
    simp
  refine ⟨(List.range i).filter fun j => !listed.getD j true, (List.range' (i + 1) (ops.size - i - 1)).filter fun j => !listed.getD j true, ?_, ?_, ?_⟩
  · unfold rem
    rw [hr, List.filter_append, List.filter_cons]
    simp only [hun, Bool.not_false, if_true]
  · unfold rem
    rw [hr, List.filter_append, List.filter_cons]
    have hin : (listed.setIfInBounds i true).getD i true = true := by simp [hs, hlt]
    rw [hin]
    simp only [Bool.not_true, Bool.false_eq_true, if_false]
    congr 1
    · refine List.filter_congr fun j hj => ?_
      rw [getD_set_ne true (by have := List.mem_range.1 hj; omega)]
    · refine List.filter_congr fun j hj => ?_
      rw [getD_set_ne true (by have := (List.mem_range'_1.1 hj).1; omega)]
  · intro t ht
    have h1 := List.mem_filter.1 ht
    have h2 := List.mem_range.1 h1.1
    exact ⟨h2, mem_rem.2 ⟨by omega, by simpa using h1.2⟩⟩

/-- What has been taken had all taken that it waits for. -/
def Closed (ops : Array Oper) (listed : Array Bool) : Prop :=
  ∀ j oj, ops[j]? = some oj → listed.getD j false = true → ∀ e ∈ oj.after, Region.binds .any e = true → listed.getD e.on false = true

theorem Closed.set {i : Nat} {listed : Array Bool} (h : Closed ops listed) (hi : i ∈ Region.ready .any ops listed) : Closed ops (listed.setIfInBounds i true) := by
  intro j oj hj hl e he hb
  obtain ⟨_, oi, hoi, hall⟩ := mem_ready.1 hi
  by_cases hij : i = j
  · subst hij
    have : oj = oi := Option.some.inj (hj.symm.trans hoi)
    subst this
    exact getD_set_true (hall e he hb)
  · rw [getD_set_ne false hij] at hl
    exact getD_set_true (h j oj hj hl e he hb)

theorem getD_replicate0 (m j : Nat) : (Array.replicate m false).getD j false = false := by
  rcases Nat.lt_or_ge j m with h | h
  · simp [h]
  · simp [h]
/-- What each operation waits for, at whatever remove: a list of numbers read as sets. -/
def waits : List Oper → List Nat → List Nat
  | [], acc => acc
  | o :: r, acc => waits r (acc ++ [o.after.toList.foldl (fun s e => if Region.binds .any e then s ||| 2 ^ e.on ||| acc.getD e.on 0 else s) 0])

theorem foldl_or (acc : List Nat) (t : Nat) : ∀ (es : List Edge) (s : Nat), (es.foldl (fun s e => if Region.binds .any e then s ||| 2 ^ e.on ||| acc.getD e.on 0 else s) s).testBit t = true →
    s.testBit t = true ∨ ∃ e ∈ es, Region.binds .any e = true ∧ (e.on = t ∨ (acc.getD e.on 0).testBit t = true)
  | [], s, h => .inl h
  | e :: es, s, h => by
    rw [List.foldl_cons] at h
    rcases foldl_or acc t es _ h with h1 | ⟨e', he', hb, hx⟩
    · by_cases hb : Region.binds .any e = true
      · rw [if_pos hb, Nat.testBit_or, Nat.testBit_or, Nat.testBit_two_pow, Bool.or_eq_true, Bool.or_eq_true] at h1
        rcases h1 with (h1 | h1) | h1
        · exact .inl h1
        · exact .inr ⟨e, by simp, hb, .inl (by simpa using h1)⟩
        · exact .inr ⟨e, by simp, hb, .inr h1⟩
      · rw [if_neg hb] at h1
        exact .inl h1
    · exact .inr ⟨e', by simp [he'], hb, hx⟩

/-- The list as far as it goes tells the truth. -/
def Truth (ops : Array Oper) (acc : List Nat) : Prop :=
  ∀ i t, i < acc.length → (acc.getD i 0).testBit t = true → ∃ oi, ops[i]? = some oi ∧ ∃ e ∈ oi.after, Region.binds .any e = true ∧ (e.on = t ∨ (e.on < i ∧ (acc.getD e.on 0).testBit t = true))

theorem waits_truth (hback : ∀ i oi, ops[i]? = some oi → ∀ e ∈ oi.after, Region.binds .any e = true → e.on < i) :
    ∀ (l : List Oper) (acc : List Nat), (∀ j, l[j]? = ops[acc.length + j]?) → Truth ops acc → Truth ops (waits l acc)
  | [], acc, _, h => h
  | o :: r, acc, hl, h => by
    unfold waits
    have ho : ops[acc.length]? = some o := by simpa using (hl 0).symm
    refine waits_truth hback r _ (fun j => by have := hl (j + 1); simpa [Nat.add_assoc, Nat.add_comm 1 j] using this) ?_
    intro i t hi hb
    rw [List.length_append, List.length_singleton] at hi
    rcases Nat.lt_or_ge i acc.length with h1 | h1
    · have e1 : ∀ x, x < acc.length → (acc ++ [o.after.toList.foldl (fun s e => if Region.binds .any e then s ||| 2 ^ e.on ||| acc.getD e.on 0 else s) 0]).getD x 0 = acc.getD x 0 := fun x hx => by
        simp [List.getD_eq_getElem?_getD, List.getElem?_append_left hx]
      rw [e1 i h1] at hb
      obtain ⟨oi, hoi, e, he, hbe, hx⟩ := h i t h1 hb
      exact ⟨oi, hoi, e, he, hbe, hx.imp id fun hx => ⟨hx.1, by rw [e1 _ (by omega)]; exact hx.2⟩⟩
    · obtain rfl : i = acc.length := by omega
      have e0 : (acc ++ [o.after.toList.foldl (fun s e => if Region.binds .any e then s ||| 2 ^ e.on ||| acc.getD e.on 0 else s) 0]).getD acc.length 0 = o.after.toList.foldl (fun s e => if Region.binds .any e then s ||| 2 ^ e.on ||| acc.getD e.on 0 else s) 0 := by
        simp [List.getD_eq_getElem?_getD]
      rw [e0] at hb
      rcases foldl_or acc t _ _ hb with h2 | ⟨e, he, hbe, hx⟩
      · simp at h2
      · have he' : e ∈ o.after := by simpa using he
        have hlt := hback _ _ ho e he' hbe
        refine ⟨o, ho, e, he', hbe, hx.imp id fun hx => ⟨hlt, ?_⟩⟩
        have e1 : (acc ++ [o.after.toList.foldl (fun s e => if Region.binds .any e then s ||| 2 ^ e.on ||| acc.getD e.on 0 else s) 0]).getD e.on 0 = acc.getD e.on 0 := by
          simp [List.getD_eq_getElem?_getD, List.getElem?_append_left hlt]
        rw [e1]; exact hx

theorem Truth.listed {acc : List Nat} (h : Truth ops acc) {listed : Array Bool} (hcl : Closed ops listed) : ∀ (i : Nat) (oi : Oper) (t : Nat), i < acc.length → ops[i]? = some oi →
    (∀ e ∈ oi.after, Region.binds .any e = true → listed.getD e.on false = true) → (acc.getD i 0).testBit t = true → listed.getD t false = true := by
  intro i
  induction i using Nat.strongRecOn with
  | _ i ih =>
    intro oi t hi hoi hall hb
    obtain ⟨oi', hoi', e, he, hbe, hx⟩ := h i t hi hb
    have : oi' = oi := Option.some.inj (hoi'.symm.trans hoi)
    subst this
    rcases hx with rfl | ⟨hlt, hx⟩
    · exact hall e he hbe
    · have hon := hall e he hbe
      have hsz : e.on < ops.size := by have := (Array.getElem?_eq_some_iff.1 hoi).1; omega
      have e1 : ops[e.on]? = some ops[e.on] := Array.getElem?_eq_getElem hsz
      exact ih e.on hlt _ t (by omega) e1 (hcl e.on _ e1 hon) hx

/-- What holds at a drawn region's end: what its operands held was of a plain kind. -/
def OnlyG (l : List Oper) (K : Act → World → Prop) : Exit → Act → World → Prop
  | .normal, a, w => (l.all fun o => goodVals a.eval o.op || !Region.wanted o (yielded l.toArray a.tmps)) = true ∧ K a w
  | _, _, _ => False
theorem OnlyG.intro {l : List Oper} {K : Act → World → Prop} {a : Act} {w : World} (h : (l.all fun o => goodVals a.eval o.op || !Region.wanted o (yielded l.toArray a.tmps)) = true) (hK : K a w) : OnlyG l K .normal a w := ⟨h, hK⟩
theorem OnlyG.lets {l : List Oper} {K : Act → World → Prop} : ¬ LetsOut (OnlyG l K) := fun ⟨_, _, h⟩ => h

theorem wp_strict {o : Oper} {a : Act} {w : World} {next : Act → World → Prop} {l : List Oper} (h : o.wp P a w next (OnlyG l K)) : o.wp P a w next (Only fun _ _ => False) := by
  unfold Oper.wp at *
  generalize (execOp a.eval o).run P w = r at *
  cases r with
  | ok n w' =>
    cases n <;> simp only [Oper.upon] at h ⊢
    case enter f args =>
      refine Calls.mono h fun e w'' he => ?_
      cases e with
      | returned v => exact he
      | panicked c => exact he
      | outgrown => exact (OnlyG.lets he).elim
    all_goals exact h
  | halt x w' =>
    cases x <;> simp only [Oper.upon] at h ⊢
    case panic v => exact h

theorem good_default {ρ : Operand → Value} {op : Op} (h : asksVals op = false) : goodVals ρ op = true := by
  cases op <;> simp [asksVals] at h <;> rfl

theorem list_walk {l0 : List Oper} (h0 : ops = l0.toArray) : ∀ (l : List Oper) (p : Nat), (∀ j, l[j]? = ops[p + j]?) →
    (∀ (j q : Nat) (o o' : Oper), l[j]? = some o → l[q]? = some o' → j ≤ q → asksVals o.op = true → ∀ d, o'.dst = some d → d ∉ o.looksAt ops) →
    ∀ (a : Act) (w : World), wpList P ops (OnlyG l0 K) l a w →
    walkG P ops K (List.range' p l.length) a w ∧ ∃ a' w', (l0.all fun o => goodVals a'.eval o.op || !Region.wanted o (yielded l0.toArray a'.tmps)) = true ∧ K a' w' ∧
      ∀ s, (∀ o ∈ l, o.dst ≠ some s) → a'.tmps[s]? = a.tmps[s]?
  | [], p, _, _, a, w, h => ⟨h.2, a, w, h.1, h.2, fun _ _ => rfl⟩
  | o :: r, p, hl, hst, a, w, h => by
    have ho : ops[p]? = some o := by simpa using (hl 0).symm
    have hl' : ∀ j, r[j]? = ops[p + 1 + j]? := fun j => by have := hl (j + 1); simpa [Nat.add_assoc, Nat.add_comm 1 j] using this
    have hst' : ∀ (j q : Nat) (o o' : Oper), r[j]? = some o → r[q]? = some o' → j ≤ q → asksVals o.op = true → ∀ d, o'.dst = some d → d ∉ o.looksAt ops := fun j q o o' h1 h2 h3 => hst (j + 1) (q + 1) o o' (by simpa using h1) (by simpa using h2) (by omega)
    have ih := list_walk h0 r (p + 1) hl' hst'
    rw [List.length_cons, List.range'_succ]
    unfold wpList at h
    -- what the step ahead of the rest leaves at the end
    have fin : ∀ (a1 : Act) (v : Value), a1.tmps = (a.put o.dst v).tmps → (∃ a' w', (l0.all fun o => goodVals a'.eval o.op || !Region.wanted o (yielded l0.toArray a'.tmps)) = true ∧ K a' w' ∧ ∀ s, (∀ o ∈ r, o.dst ≠ some s) → a'.tmps[s]? = a1.tmps[s]?) →
        GoodAt ops o a ∧ ∃ a' w', (l0.all fun o => goodVals a'.eval o.op || !Region.wanted o (yielded l0.toArray a'.tmps)) = true ∧ K a' w' ∧ ∀ s, (∀ o' ∈ o :: r, o'.dst ≠ some s) → a'.tmps[s]? = a.tmps[s]? := by
      rintro a1 v htm ⟨a', w', hall, hK, hs⟩
      have keep : ∀ s, (∀ o' ∈ o :: r, o'.dst ≠ some s) → a'.tmps[s]? = a.tmps[s]? := fun s hn => by
        rw [hs s fun o' ho' => hn o' (by simp [ho']), htm]
        have := hn o (by simp)
        cases hd : o.dst with
        | none => rfl
        | some d =>
          have hne : d ≠ s := fun e => this (by rw [hd, e])
          simp [Act.put, Array.getElem?_setIfInBounds_ne hne]
      refine ⟨fun hw => ?_, a', w', hall, hK, keep⟩
      cases hask : asksVals o.op with
      | false => exact good_default hask
      | true =>
        have hlook : ∀ d, d ∈ o.looksAt ops → a'.tmps[d]? = a.tmps[d]? := fun d hd => keep d fun o' ho' he => by
          obtain ⟨q, hq, hq'⟩ := List.getElem_of_mem ho'
          exact hst 0 q o o' rfl (by rw [List.getElem?_eq_getElem hq, hq']) (Nat.zero_le _) hask d he hd
        have hev : ∀ x ∈ o.op.operands, a'.eval x = a.eval x := fun x hx => by
          cases x with
          | tmp d =>
            have : d ∈ o.looksAt ops := List.mem_append_left _ (List.mem_filterMap.2 ⟨.tmp d, by simpa using hx, rfl⟩)
            simp [Act.eval, Array.getD_eq_getD_getElem?, hlook d this]
          | _ => rfl
        have hwa : Region.wanted o (yielded ops a'.tmps) = Region.wanted o (yielded ops a.tmps) := by
          unfold Region.wanted
          cases hg : o.guard with
          | none => rfl
          | some gw =>
            obtain ⟨g, want⟩ := gw
            have hy : yielded ops a'.tmps g = yielded ops a.tmps g := by
              unfold yielded
              cases ht : (ops[g]?).bind (·.dst) with
              | none => rfl
              | some d =>
                have : d ∈ o.looksAt ops := by simp [Oper.looksAt, hg, ht]
                simp [hlook d this]
            simp only [hy]
        have hmem : o ∈ l0 := by
          have := Array.mem_of_getElem? ho
          rw [h0] at this
          simpa using this
        have h9 := List.all_eq_true.1 hall o hmem
        rw [← h0, hwa, hw, good_congr o.op hev] at h9
        simpa using h9
    by_cases hw : Region.wanted o (yielded ops a.tmps) = true
    · rw [if_pos hw] at h
      rcases h with h | ⟨_, hlets⟩
      case inr => exact (OnlyG.lets hlets).elim
      have h1 := wp_strict h
      have h2 := Oper.wp_mono (fun a1 w1 hr => ih a1 w1 hr) h1
      obtain ⟨a1, w1, v, h3, htm⟩ := wp_out h2
      obtain ⟨hg, hfin⟩ := fin a1 v htm h3.2
      refine ⟨?_, hfin⟩
      show stepG P ops p _ a w
      unfold stepG
      simp only [ho, hw, if_true]
      exact ⟨hg hw, Oper.wp_mono (fun a1 w1 hr => hr.1) h2⟩
    · rw [if_neg hw] at h
      have h2 := ih _ _ h
      obtain ⟨hg, hfin⟩ := fin (a.put o.dst undef) undef rfl h2.2
      refine ⟨?_, hfin⟩
      show stepG P ops p _ a w
      unfold stepG
      simp only [ho, hw, if_false, Bool.false_eq_true]
      exact h2.1

/-- THE CLOSED LOOK. -/
def lexB (ops : Array Oper) : Bool :=
  Region.noSelect ops && (List.range ops.size).all fun i => match ops[i]? with
    | none => true
    | some oi =>
      (oi.after.toList.all fun e => !Region.binds .any e || decide (e.on < i)) &&
      (!asksVals oi.op || (List.range ops.size).all fun q => decide (q < i) || match (ops[q]?).bind (·.dst) with
        | some d => !(oi.looksAt ops).contains d
        | none => true) &&
      (List.range i).all fun t => ((waits ops.toList []).getD i 0).testBit t || match ops[t]? with
        | none => true
        | some ot => ot.apart ops oi && (kindOf ot.op == 0 || kindOf oi.op == 0 || (decide (kindOf ot.op ≤ 1) && decide (kindOf oi.op ≤ 1)))

theorem walk_any (hsel : Region.noSelect ops = true) (hback : ∀ i oi, ops[i]? = some oi → ∀ e ∈ oi.after, Region.binds .any e = true → e.on < i) {acc : List Nat} (hacc : acc.length = ops.size) (htr : Truth ops acc)
    (hpair : ∀ i t, i < ops.size → t < i → (acc.getD i 0).testBit t = true ∨ mayChange ops t i) :
    ∀ (fuel : Nat) (listed : Array Bool) (a : Act) (w : World), listed.size = ops.size → Closed ops listed → (rem ops listed).length ≤ fuel →
    walkG P ops K (rem ops listed) a w → wpAny P .any ops (Only K) fuel listed a w := by
  have hrem : ∀ listed : Array Bool, listed.size = ops.size → Closed ops listed → Region.ready .any ops listed = [] → rem ops listed = [] := fun listed hs hcl hr => by
    cases hm : rem ops listed with
    | nil => rfl
    | cons i l =>
      exfalso
      have hi : i ∈ rem ops listed := by rw [hm]; simp
      obtain ⟨hlt, hun⟩ := mem_rem.1 hi
      obtain ⟨τ, ρ, e1, _, e3⟩ := rem_split hs hi
      have hτ : τ = [] := by
        cases τ with
        | nil => rfl
        | cons x τ =>
          rw [hm] at e1
          have hx : i = x := (List.cons.inj e1).1
          have := (e3 x (by simp)).1
          omega
      have eo : ops[i]? = some ops[i] := Array.getElem?_eq_getElem hlt
      have : i ∈ Region.ready .any ops listed := mem_ready.2 ⟨hun, _, eo, fun e he hb => by
        have hlt' := hback i _ eo e he hb
        by_cases hle : listed.getD e.on false = true
        · exact hle
        · exfalso
          have hmem : e.on ∈ rem ops listed := mem_rem.2 ⟨by omega, by
            have : e.on < listed.size := by omega
            simp [this] at hle ⊢; exact hle⟩
          rw [e1, hτ, List.nil_append] at hmem
          -- the rest of the list lies behind i
          have hlow : ∀ x ∈ rem ops listed, i ≤ x := fun x hx => by
            obtain ⟨τ', ρ', f1, _, f3⟩ := rem_split hs hx
            by_cases hτ' : τ' = []
            · rw [hτ', List.nil_append, hm] at f1
              have := (List.cons.inj f1).1; omega
            · cases τ' with
              | nil => exact absurd rfl hτ'
              | cons y τ' =>
                rw [hm] at f1
                have := (List.cons.inj f1).1
                have := (f3 y (by simp)).1
                omega
          have := hlow e.on (by rw [e1, hτ, List.nil_append]; exact hmem)
          omega⟩
      rw [hr] at this
      cases this
  intro fuel
  induction fuel with
  | zero =>
    intro listed a w hs hcl hlen h
    have hnil : rem ops listed = [] := List.eq_nil_of_length_eq_zero (by omega)
    refine ⟨?_, by rw [hnil] at h; exact h⟩
    cases hr : Region.ready .any ops listed with
    | nil => rfl
    | cons i l =>
      have hi : i ∈ Region.ready .any ops listed := by rw [hr]; simp
      obtain ⟨hun, o, ho, _⟩ := mem_ready.1 hi
      have : i ∈ rem ops listed := mem_rem.2 ⟨(Array.getElem?_eq_some_iff.1 ho).1, hun⟩
      rw [hnil] at this
      cases this
  | succ fuel ih =>
    intro listed a w hs hcl hlen h
    refine ⟨fun hr => by rw [hrem listed hs hcl hr] at h; exact h, fun i hi => ?_⟩
    obtain ⟨hun, o, ho, hall⟩ := mem_ready.1 hi
    have hlt : i < ops.size := (Array.getElem?_eq_some_iff.1 ho).1
    obtain ⟨τ, ρ, e1, e2, e3⟩ := rem_split hs (mem_rem.2 ⟨hlt, hun⟩)
    rw [e1] at h
    have hstep := walkG_first hsel hlt τ ρ a w (fun t ht => by
      obtain ⟨h1, h2⟩ := e3 t ht
      refine ⟨by omega, (hpair i t hlt h1).resolve_left fun hb => ?_⟩
      have := htr.listed hcl i o t (by omega) ho hall hb
      have h3 := (mem_rem.1 h2).2
      have h4 : t < listed.size := by omega
      simp [h4] at this h3
      rw [h3] at this
      cases this) h
    refine wpOp_mono (fun a' w' h' => ih _ a' w' (by simpa using hs) (hcl.set hi) ?_ (by rw [e2]; exact h')) (stepG_wpOp hstep)
    rw [e2]
    rw [e1] at hlen
    simp only [List.length_append, List.length_cons] at hlen ⊢
    omega

theorem waits_length : ∀ (l : List Oper) (acc : List Nat), (waits l acc).length = acc.length + l.length
  | [], acc => by simp [waits]
  | o :: r, acc => by unfold waits; rw [waits_length r]; simp; omega

/-- THE LAW: a region that draws its order, walked in the order of the text. -/
theorem wp_region_lex {id : Nat} {l : List Oper} {Q : Exit → Act → World → Prop} {a : Act} {w : World} (hm : P.follows .mixedOrders = true) (hB : lexB l.toArray = true)
    (h : wpList P l.toArray (OnlyG l (Q .normal)) l a w.drew) : (Code.region id l.toArray true).wp P Q a w := by
  refine Code.wp_mono (Q := Only (Q .normal)) (fun e a w hq => by cases e <;> first | exact hq | exact hq.elim) ?_
  refine wp_region_any hm ?_
  generalize hops : l.toArray = ops at *
  unfold lexB at hB
  simp only [Bool.and_eq_true, List.all_eq_true, List.mem_range] at hB
  obtain ⟨hsel, hB⟩ := hB
  have hB' : ∀ i oi, ops[i]? = some oi → _ := fun i oi hi => by
    have := hB i (Array.getElem?_eq_some_iff.1 hi).1
    simp only [hi, Bool.and_eq_true, List.all_eq_true, List.mem_range] at this
    exact this
  have hback : ∀ i oi, ops[i]? = some oi → ∀ e ∈ oi.after, Region.binds .any e = true → e.on < i := fun i oi hi e he hb => by
    have := (hB' i oi hi).1.1 e (by simpa using he)
    simpa [hb] using this
  have hlen : l.length = ops.size := by rw [← hops]; simp
  have hl : ∀ j, l[j]? = ops[0 + j]? := fun j => by rw [← hops]; simp
  have htr : Truth ops (waits ops.toList []) := waits_truth hback ops.toList [] (fun j => by simp) (fun i t hi => by simp at hi)
  have hw := (list_walk (P := P) (K := Q .normal) hops.symm l 0 hl (fun j q o o' h1 h2 hjq hask d hd hm => by
    have hj : ops[j]? = some o := by rw [← h1, hl]; simp
    have hq : ops[q]? = some o' := by rw [← h2, hl]; simp
    have h5 := (hB' j o hj).1.2
    rw [hask] at h5
    simp only [Bool.not_true, Bool.false_or, List.all_eq_true, List.mem_range] at h5
    have h6 := h5 q (Array.getElem?_eq_some_iff.1 hq).1
    simp only [hq, Option.bind_some, hd, Bool.or_eq_true, decide_eq_true_eq] at h6
    rcases h6 with h6 | h6
    · omega
    · simp [hm] at h6) a w.drew h).1
  have hr0 : rem ops (Array.replicate ops.size false) = List.range' 0 l.length := by
    unfold rem
    rw [hlen, ← List.range_eq_range', List.filter_eq_self]
    intro i hi
    have := List.mem_range.1 hi
    simp [this]
  refine walk_any hsel hback (acc := waits ops.toList []) (by rw [waits_length]; simp) htr (fun i t hi ht => ?_) ops.size _ a _ (by simp) (fun j oj _ hl => by rw [getD_replicate0] at hl; cases hl) ?_ ?_
  · have h1 := (hB' i _ (Array.getElem?_eq_getElem hi)).2 t ht
    simp only [Bool.or_eq_true] at h1
    rcases h1 with h1 | h1
    · exact .inl h1
    · refine .inr fun ot oi hot hoi => ?_
      have e1 : oi = ops[i] := Option.some.inj (hoi.symm.trans (Array.getElem?_eq_getElem hi))
      subst e1
      simp only [hot, Bool.and_eq_true, Bool.or_eq_true, beq_iff_eq, decide_eq_true_eq] at h1
      obtain ⟨hap, hk⟩ := h1
      refine ⟨hap, ?_⟩
      rcases hk with (hk | hk) | hk
      · exact .inl hk
      · exact .inr (.inl hk)
      · exact .inr (.inr hk)
  · rw [hr0]; simp [hlen]
  · rw [hr0]; exact hw
end
end Go.Proofs.Ytkjfdaleamonaaa
