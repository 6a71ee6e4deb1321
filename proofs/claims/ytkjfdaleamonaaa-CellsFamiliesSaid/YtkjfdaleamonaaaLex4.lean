/- The second law for a region that draws its order: each operation is looked at ONCE, from whatever world it may meet; what it leaves must outlast what the others do. -/
import Derived.Test.YtkjfdaleamonaaaLex3
namespace Go.Proofs.Ytkjfdaleamonaaa
open Go

section
variable {P : Program} {ops : Array Oper}

/-- What an operation leaves: a value in its slot. -/
def Leaves (a : Act) (dst : Option Tmp) (S : Value → World → Prop) : Exit → Act → World → Prop
  | .normal, a', w' => ∃ v, a' = a.put dst v ∧ S v w'
  | _, _, _ => False
theorem Leaves.lets {a : Act} {dst : Option Tmp} {S : Value → World → Prop} : ¬ LetsOut (Leaves a dst S) := fun ⟨_, _, h⟩ => h

def stepV (P : Program) (ops : Array Oper) (o : Oper) (S : Value → World → Prop) (a : Act) (w : World) : Prop :=
  if Region.wanted o (yielded ops a.tmps) = true then o.wp P a w (Leaves a o.dst S .normal) (Only fun _ _ => False) else Leaves a o.dst S .normal (a.put o.dst undef) w

theorem wp_leaves {o : Oper} {a b : Act} {dst : Option Tmp} {S : Value → World → Prop} {w : World} {next : Act → World → Prop} (h : o.wp P a w next (Leaves b dst S)) : o.wp P a w next (Only fun _ _ => False) := by
  unfold Oper.wp at *
  generalize (execOp a.eval o).run P w = r at *
  cases r with
  | ok n w' =>
    cases n <;> simp only [Oper.upon] at h ⊢
    case enter f args =>
      refine Calls.mono h fun e w'' he => ?_
      cases e with
      | returned v => exact he
      | panicked c => exact he
      | outgrown => exact (Leaves.lets he).elim
    all_goals exact h
  | halt x w' =>
    cases x <;> simp only [Oper.upon] at h ⊢
    case panic v => exact h

theorem stepV_of_list {o : Oper} {S : Value → World → Prop} {a : Act} {w : World} (h : wpList P ops (Leaves a o.dst S) [o] a w) : stepV P ops o S a w := by
  simp only [wpList] at h
  unfold stepV
  split
  · rename_i hw
    rw [if_pos hw] at h
    rcases h with h | ⟨_, h⟩
    · exact wp_leaves h
    · exact (Leaves.lets h).elim
  · rename_i hw
    rw [if_neg hw] at h
    exact h

theorem put_defers' (a : Act) (dst : Option Tmp) (v : Value) : (a.put dst v).defers = a.defers := by cases dst <;> rfl
theorem put_eq {a c : Act} {dst : Option Tmp} {v u : Value} (h : c.put dst v = c.put dst u) (hs : a.tmps.size = c.tmps.size) : a.put dst v = a.put dst u := by
  cases dst with
  | none => rfl
  | some d =>
    by_cases hd : d < c.tmps.size
    · have h1 := congrArg (fun x : Act => x.tmps[d]?) h
      simp [Act.put, hd] at h1
      rw [h1]
    · have hd' : ¬ d < a.tmps.size := by rw [hs]; exact hd
      simp [Act.put, Array.setIfInBounds, hd']

theorem wanted_same {o : Oper} {a c : Act} (he : ∀ d ∈ o.looksAt ops, a.tmps[d]? = c.tmps[d]?) : Region.wanted o (yielded ops a.tmps) = Region.wanted o (yielded ops c.tmps) := by
  unfold Region.wanted
  cases hg : o.guard with
  | none => rfl
  | some gw =>
    obtain ⟨g, want⟩ := gw
    have hy : yielded ops a.tmps g = yielded ops c.tmps g := by
      unfold yielded
      cases ht : (ops[g]?).bind (·.dst) with
      | none => rfl
      | some t =>
        have := he t (by simp [Oper.looksAt, hg, ht])
        simp [this]
    simp only [hy]
theorem exec_same {o : Oper} {a c : Act} (hs : ∀ cs b, o.op ≠ .select cs b) (he : ∀ d ∈ o.looksAt ops, a.tmps[d]? = c.tmps[d]?) : execOp a.eval o = execOp c.eval o :=
  execOp_congr o hs fun x hx => by
    cases x with
    | tmp t =>
      have := he t (List.mem_append_left _ (List.mem_filterMap.2 ⟨.tmp t, by simpa using hx, rfl⟩))
      simp only [Act.eval, Array.getD_eq_getD_getElem?, this]
    | _ => rfl

theorem stepV_congr {o : Oper} {S : Value → World → Prop} {a c : Act} {w : World} (hs : ∀ cs b, o.op ≠ .select cs b) (hz : a.tmps.size = c.tmps.size) (he : ∀ d ∈ o.looksAt ops, a.tmps[d]? = c.tmps[d]?)
    (h : stepV P ops o S c w) : stepV P ops o S a w := by
  have tr : ∀ v w', Leaves c o.dst S .normal (c.put o.dst v) w' → Leaves a o.dst S .normal (a.put o.dst v) w' := fun v w' ⟨u, e, hu⟩ => ⟨u, put_eq e hz, hu⟩
  unfold stepV at *
  rw [wanted_same he]
  split
  · rename_i hw
    rw [if_pos hw] at h
    unfold Oper.wp at *
    rw [exec_same hs he]
    generalize (execOp c.eval o).run P w = r at *
    cases r with
    | ok n w' =>
      cases n <;> simp only [Oper.upon] at h ⊢
      case value v => exact tr _ _ h
      case skip => exact tr _ _ h
      case defer d =>
        exfalso
        obtain ⟨u, e, _⟩ := h
        have := congrArg (fun x : Act => x.defers.length) e
        simp [put_defers'] at this
      case enter f args =>
        refine Calls.mono h fun e w'' he => ?_
        cases e with
        | returned v => exact tr _ _ he
        | panicked c => exact he
        | outgrown => exact he
      case row row args => exact Rows.mono h fun u w'' he => tr _ _ he
    | halt x w' =>
      cases x <;> simp only [Oper.upon] at h ⊢
      case panic v => exact h
  · rename_i hw
    rw [if_neg hw] at h
    exact tr _ _ h

theorem stepV_wpOp {i : Nat} {o : Oper} (ho : ops[i]? = some o) {S : Value → World → Prop} {a : Act} {w : World} {n K : Act → World → Prop} (hn : ∀ v w', S v w' → n (a.put o.dst v) w') (h : stepV P ops o S a w) : wpOp P ops (Only K) i n a w := by
  unfold Go.wpOp
  simp only [ho]
  unfold stepV at h
  split
  · rename_i hw
    rw [if_pos hw] at h
    exact .inl (only_wp (Oper.wp_mono (fun a' w' ⟨v, e, hs⟩ => by rw [e]; exact hn v w' hs) h))
  · rename_i hw
    rw [if_neg hw] at h
    obtain ⟨v, e, hs⟩ := h
    rw [e]
    exact hn v w hs

/-! ### The acts on the way -/
/-- The act after the operations in D have left their values. -/
def fillD (D : Nat → Bool) (V : Nat → Value) : List Oper → Nat → Act → Act
  | [], _, a => a
  | o :: r, i, a => fillD D V r (i + 1) (if D i then a.put o.dst (V i) else a)

theorem put_size (a : Act) (dst : Option Tmp) (v : Value) : (a.put dst v).tmps.size = a.tmps.size := by cases dst <;> simp [Act.put]
theorem fill_size (D : Nat → Bool) (V : Nat → Value) : ∀ (l : List Oper) (i : Nat) (a : Act), (fillD D V l i a).tmps.size = a.tmps.size
  | [], _, _ => rfl
  | o :: r, i, a => by
    unfold fillD
    rw [fill_size D V r]
    split
    · exact put_size _ _ _
    · rfl
theorem fill_none (D : Nat → Bool) (V : Nat → Value) : ∀ (l : List Oper) (i : Nat) (a : Act), (∀ j, i ≤ j → D j = false) → fillD D V l i a = a
  | [], _, _, _ => rfl
  | o :: r, i, a, h => by
    unfold fillD
    rw [h i (Nat.le_refl _), if_neg (by simp)]
    exact fill_none D V r _ _ fun j hj => h j (by omega)
theorem fill_congr (D D' : Nat → Bool) (V V' : Nat → Value) : ∀ (l : List Oper) (i : Nat) (a : Act), (∀ j, i ≤ j → j < i + l.length → D j = D' j ∧ (D j = true → V j = V' j)) → fillD D V l i a = fillD D' V' l i a
  | [], _, _, _ => rfl
  | o :: r, i, a, h => by
    unfold fillD
    obtain ⟨h1, h2⟩ := h i (Nat.le_refl _) (by simp)
    have e : (if D i = true then a.put o.dst (V i) else a) = if D' i = true then a.put o.dst (V' i) else a := by
      rw [← h1]
      split
      · rename_i hd; rw [h2 hd]
      · rfl
    rw [e]
    exact fill_congr D D' V V' r _ _ fun j hj hl => h j (by omega) (by simp; omega)
/-- Where no operation of D writes, and where both have the same, the acts agree. -/
theorem fill_at (D D' : Nat → Bool) (V : Nat → Value) (s : Nat) : ∀ (l : List Oper) (i : Nat) (a b : Act), a.tmps.size = b.tmps.size → a.tmps[s]? = b.tmps[s]? →
    (∀ j o, l[j]? = some o → o.dst = some s → D (i + j) = D' (i + j)) → (fillD D V l i a).tmps[s]? = (fillD D' V l i b).tmps[s]?
  | [], _, _, _, _, h, _ => h
  | o :: r, i, a, b, hz, h, hd => by
    unfold fillD
    refine fill_at D D' V s r _ _ _ ?_ ?_ fun j o' hj ho => by
      have := hd (j + 1) o' (by simpa using hj) ho
      rw [show i + 1 + j = i + (j + 1) from by omega]; exact this
    · split <;> split <;> simp [put_size, hz]
    · by_cases hs : o.dst = some s
      · have e := hd 0 o rfl hs
        rw [Nat.add_zero] at e
        rw [← e]
        split
        · rw [hs]
          by_cases hlt : s < a.tmps.size
          · have : s < b.tmps.size := by omega
            simp [Act.put, hlt, this]
          · have : ¬ s < b.tmps.size := by omega
            simp [Act.put, Array.setIfInBounds, hlt, this]
        · exact h
      · have keep : ∀ (a : Act) (v : Value), (a.put o.dst v).tmps[s]? = a.tmps[s]? := fun a v => by
          cases ho : o.dst with
          | none => rfl
          | some d =>
            have hne : d ≠ s := fun e => hs (by rw [ho, e])
            simp [Act.put, Array.getElem?_setIfInBounds_ne hne]
        split <;> split <;> simp [keep, h]
theorem fill_put (D : Nat → Bool) (V : Nat → Value) (dst : Option Tmp) (v : Value) : ∀ (l : List Oper) (i : Nat) (a : Act), (∀ o ∈ l, ∀ d, dst = some d → o.dst ≠ some d) →
    (fillD D V l i a).put dst v = fillD D V l i (a.put dst v)
  | [], _, _, _ => rfl
  | o :: r, i, a, h => by
    unfold fillD
    rw [fill_put D V dst v r _ _ fun o' ho => h o' (by simp [ho])]
    congr 1
    split
    · exact Act.put_comm _ _ _ fun d hd he => h o (by simp) d he hd
    · rfl
theorem fill_take (D : Nat → Bool) (V : Nat → Value) (v : Value) : ∀ (l : List Oper) (i : Nat) (a : Act) (k : Nat) (o : Oper), l[k]? = some o → D (i + k) = false →
    (∀ q o', l[q]? = some o' → q ≠ k → ∀ d, o.dst = some d → o'.dst ≠ some d) →
    (fillD D V l i a).put o.dst v = fillD (fun j => if j = i + k then true else D j) (fun j => if j = i + k then v else V j) l i a
  | [], _, _, _, _, h, _, _ => by simp at h
  | x :: r, i, a, 0, o, h, hD, hd => by
    obtain rfl : x = o := by simpa using h
    rw [Nat.add_zero] at hD ⊢
    unfold fillD
    rw [hD, if_neg (by simp), fill_put D V _ _ r _ _ fun o' ho d hd1 => by
      obtain ⟨q, hq⟩ := List.mem_iff_getElem?.1 ho
      exact hd (q + 1) o' (by simpa using hq) (by omega) d hd1]
    simp only [if_true]
    exact fill_congr _ _ _ _ r _ _ fun j hj _ => by
      rw [if_neg (by omega), if_neg (by omega)]; exact ⟨rfl, fun _ => rfl⟩
  | x :: r, i, a, k + 1, o, h, hD, hd => by
    unfold fillD
    rw [fill_take D V v r (i + 1) _ k o (by simpa using h) (by rw [show i + 1 + k = i + (k + 1) from by omega]; exact hD) fun q o' hq hne d hd1 => hd (q + 1) o' (by simpa using hq) (by omega) d hd1]
    rw [show i + 1 + k = i + (k + 1) from by omega]
    congr 1
    rw [if_neg (show ¬ i = i + (k + 1) by omega), if_neg (show ¬ i = i + (k + 1) by omega)]

/-- What must be done ahead. -/
def needs (o : Oper) (j : Nat) : Bool := o.after.toList.any fun e => Region.binds .any e && e.on == j
/-- Each operation once, in the order of the text, from whatever world it may meet. -/
def invList (P : Program) (ops : Array Oper) (G : World → World → Prop) (w0 : World) (R : Nat → Value → World → Prop) (K : Act → World → Prop) : List Oper → List Value → Act → Prop
  | [], vs, a => ∀ w, G w0 w → (∀ j, j < vs.length → R j (vs.getD j undef) w) → K a w
  | o :: r, vs, a => (∀ w, G w0 w → (∀ j, j < vs.length → needs o j = true → R j (vs.getD j undef) w) → wpList P ops (Leaves a o.dst fun v w' => G w w' ∧ R vs.length v w') [o] a w) ∧
      ∀ v, invList P ops G w0 R K r (vs ++ [v]) (a.put o.dst v)

theorem range_snoc (V : Nat → Value) (m : Nat) : (List.range m).map V ++ [V m] = (List.range (m + 1)).map V := by rw [List.range_succ]; simp
theorem range_get (V : Nat → Value) {m j : Nat} (h : j < m) : ((List.range m).map V).getD j undef = V j := by simp [List.getD_eq_getElem?_getD, h]

theorem inv_at {G : World → World → Prop} {w0 : World} {R : Nat → Value → World → Prop} {K : Act → World → Prop} (V : Nat → Value) : ∀ (r : List Oper) (m : Nat) (a : Act), invList P ops G w0 R K r ((List.range m).map V) a →
    (∀ k o, r[k]? = some o → ∀ w, G w0 w → (∀ j, j < m + k → needs o j = true → R j (V j) w) →
      wpList P ops (Leaves (fillD (fun j => decide (j < m + k)) V r m a) o.dst fun v w' => G w w' ∧ R (m + k) v w') [o] (fillD (fun j => decide (j < m + k)) V r m a) w) ∧
    (∀ w, G w0 w → (∀ j, j < m + r.length → R j (V j) w) → K (fillD (fun _ => true) V r m a) w)
  | [], m, a, h => ⟨fun k o hk => by simp at hk, fun w hg hr => h w hg fun j hj => by
      have hj' : j < m := by simpa using hj
      rw [range_get V hj']; exact hr j (by simpa using hj')⟩
  | o :: r, m, a, h => by
    obtain ⟨h1, h2⟩ := h
    have h3 := h2 (V m)
    rw [range_snoc] at h3
    obtain ⟨i1, i2⟩ := inv_at V r (m + 1) _ h3
    refine ⟨fun k o' hk w hg hr => ?_, fun w hg hr => ?_⟩
    · cases k with
      | zero =>
        obtain rfl : o = o' := by simpa using hk
        rw [Nat.add_zero] at hr ⊢
        rw [fill_none _ _ _ _ _ fun j hj => by simp; omega]
        have := h1 w hg fun j hj hn => by
          have hj' : j < m := by simpa using hj
          rw [range_get V hj']; exact hr j hj' hn
        simpa using this
      | succ k =>
        have := i1 k o' (by simpa using hk) w hg fun j hj hn => hr j (by omega) hn
        rw [show m + 1 + k = m + (k + 1) from by omega] at this
        have e : fillD (fun j => decide (j < m + (k + 1))) V (o :: r) m a = fillD (fun j => decide (j < m + (k + 1))) V r (m + 1) (a.put o.dst (V m)) := by
          show fillD _ V r (m + 1) _ = _
          rw [if_pos (by simp)]
        rw [e]
        exact this
    · have := i2 w hg fun j hj => hr j (by simp; omega)
      exact this

/-- The closed look. -/
def invB (ops : Array Oper) : Bool :=
  Region.noSelect ops && (List.range ops.size).all fun i => match ops[i]? with
    | none => true
    | some oi =>
      (oi.after.toList.all fun e => !Region.binds .any e || decide (e.on < i)) &&
      (List.range ops.size).all fun q => q == i || match (ops[q]?).bind (·.dst) with
        | none => true
        | some d => oi.dst != some d && (!(oi.looksAt ops).contains d || (decide (q < i) && needs oi q) || (decide (i < q) && ((waits ops.toList []).getD q 0).testBit i))

theorem rem_nil (hback : ∀ i oi, ops[i]? = some oi → ∀ e ∈ oi.after, Region.binds .any e = true → e.on < i) (listed : Array Bool) (hs : listed.size = ops.size) (hr : Region.ready .any ops listed = []) : ∀ i, i < ops.size → listed.getD i false = true := by
  intro i
  induction i using Nat.strongRecOn with
  | _ i ih =>
    intro hi
    by_cases hd : listed.getD i false = true
    · exact hd
    · exfalso
      have : i ∈ Region.ready .any ops listed := mem_ready.2 ⟨by
        have : i < listed.size := by omega
        simp [this] at hd ⊢; exact hd, _, Array.getElem?_eq_getElem hi, fun e he hb => by
          have hlt := hback i _ (Array.getElem?_eq_getElem hi) e he hb
          exact ih e.on hlt (by omega)⟩
      rw [hr] at this
      cases this

theorem inv_any {l : List Oper} {G : World → World → Prop} {w0 : World} {R : Nat → Value → World → Prop} {K : Act → World → Prop} {a0 : Act} (hB : invB l.toArray = true)
    (Gt : ∀ w w1 w2, G w w1 → G w1 w2 → G w w2) (mono : ∀ i v w w', G w0 w → G w w' → R i v w → R i v w')
    (h : invList P l.toArray G w0 R K l [] a0) :
    ∀ (fuel : Nat) (listed : Array Bool) (V : Nat → Value) (w : World), listed.size = l.length → Closed l.toArray listed → G w0 w → (∀ j, listed.getD j false = true → R j (V j) w) →
    (rem l.toArray listed).length ≤ fuel → wpAny P .any l.toArray (Only K) fuel listed (fillD (fun j => listed.getD j false) V l 0 a0) w := by
  unfold invB at hB
  simp only [Bool.and_eq_true, List.all_eq_true, List.mem_range] at hB
  obtain ⟨hsel, hB⟩ := hB
  have hB' : ∀ i oi, l.toArray[i]? = some oi → _ := fun i oi hi => by
    have := hB i (Array.getElem?_eq_some_iff.1 hi).1
    simp only [hi, Bool.and_eq_true, List.all_eq_true, List.mem_range] at this
    exact this
  have hback : ∀ i oi, l.toArray[i]? = some oi → ∀ e ∈ oi.after, Region.binds .any e = true → e.on < i := fun i oi hi e he hb => by
    have := (hB' i oi hi).1 e (by simpa using he)
    simpa [hb] using this
  have htr : Truth l.toArray (waits l.toArray.toList []) := waits_truth hback l.toArray.toList [] (fun j => by simp) (fun i t hi => by simp at hi)
  have hlen : (waits l.toArray.toList []).length = l.length := by rw [waits_length]; simp
  have hall : ∀ listed : Array Bool, listed.size = l.length → Region.ready .any l.toArray listed = [] → ∀ i, i < l.length → listed.getD i false = true := fun listed hs hr i hi =>
    rem_nil hback listed (by simpa using hs) hr i (by simpa using hi)
  have hend : ∀ (listed : Array Bool) (V : Nat → Value) (w : World), (∀ i, i < l.length → listed.getD i false = true) → G w0 w → (∀ j, listed.getD j false = true → R j (V j) w) →
      K (fillD (fun j => listed.getD j false) V l 0 a0) w := fun listed V w hd hg hr => by
    have := (inv_at V l 0 a0 h).2 w hg fun j hj => hr j (hd j (by simpa using hj))
    rw [fill_congr _ (fun _ => true) V V l 0 a0 fun j _ hj => ⟨hd j (by simpa using hj), fun _ => rfl⟩]
    exact this
  intro fuel
  induction fuel with
  | zero =>
    intro listed V w hs hcl hg hr hf
    have hnil : rem l.toArray listed = [] := List.eq_nil_of_length_eq_zero (by omega)
    have hd : ∀ i, i < l.length → listed.getD i false = true := fun i hi => by
      by_cases hd : listed.getD i false = true
      · exact hd
      · exfalso
        have : i ∈ rem l.toArray listed := mem_rem.2 ⟨by simpa using hi, by
          have : i < listed.size := by omega
          simp [this] at hd ⊢; exact hd⟩
        rw [hnil] at this
        cases this
    refine ⟨?_, hend listed V w hd hg hr⟩
    cases hrd : Region.ready .any l.toArray listed with
    | nil => rfl
    | cons i q =>
      have hi : i ∈ Region.ready .any l.toArray listed := by rw [hrd]; simp
      obtain ⟨hun, o, ho, _⟩ := mem_ready.1 hi
      have : i ∈ rem l.toArray listed := mem_rem.2 ⟨(Array.getElem?_eq_some_iff.1 ho).1, hun⟩
      rw [hnil] at this
      cases this
  | succ fuel ih =>
    intro listed V w hs hcl hg hr hf
    refine ⟨fun hrd => hend listed V w (hall listed hs hrd) hg hr, fun i hi => ?_⟩
    obtain ⟨hun, o, ho, hdone⟩ := mem_ready.1 hi
    have hlt : i < l.toArray.size := (Array.getElem?_eq_some_iff.1 ho).1
    have hltl : i < l.length := by simpa using hlt
    have hlis : i < listed.size := by omega
    have hun' : listed.getD i false = false := by simp [hlis] at hun ⊢; exact hun
    have hol : l[i]? = some o := by simpa using ho
    have hst := (inv_at V l 0 a0 h).1 i o hol w hg fun j hj hn => by
      refine hr j ?_
      unfold needs at hn
      simp only [List.any_eq_true, Bool.and_eq_true, beq_iff_eq] at hn
      obtain ⟨e, he, hb, rfl⟩ := hn
      exact hdone e (by simpa using he) hb
    rw [Nat.zero_add] at hst
    have hsel' : ∀ cs b, o.op ≠ .select cs b := by
      intro cs b hc
      unfold Region.noSelect at hsel
      simp only [Array.all_eq_true] at hsel
      have := hsel i (by simpa using hlt)
      rw [(Array.getElem?_eq_some_iff.1 ho).2] at this
      rw [hc] at this
      simp at this
    have hsv := stepV_congr (a := fillD (fun j => listed.getD j false) V l 0 a0) hsel' (by rw [fill_size, fill_size]) (fun d hd => ?_) (stepV_of_list hst)
    · refine stepV_wpOp ho ?_ hsv
      rintro v w' ⟨hgw, hR⟩
      rw [fill_take (fun j => listed.getD j false) V v l 0 a0 i o hol (by rw [Nat.zero_add]; exact hun') fun q o' hq hne d hd1 hd2 => by
        have h1 := (hB' i o ho).2 q (by have := (List.getElem?_eq_some_iff.1 hq).1; simpa using this)
        have hq' : l.toArray[q]? = some o' := by simpa using hq
        simp [hne, hq', hd2, hd1] at h1]
      have hcl' := hcl.set hi
      have e : (fun j => if j = 0 + i then true else listed.getD j false) = fun j => (listed.setIfInBounds i true).getD j false := by
        funext j
        rw [Nat.zero_add]
        by_cases hj : j = i
        · subst hj; simp [hlis]
        · rw [if_neg hj, getD_set_ne false (fun e => hj e.symm)]
      rw [e]
      refine ih _ _ w' (by simpa using hs) hcl' (Gt _ _ _ hg hgw) (fun j hj => ?_) ?_
      · rw [Nat.zero_add]
        by_cases hji : j = i
        · subst hji; rw [if_pos rfl]; exact hR
        · rw [if_neg hji]
          rw [getD_set_ne false (fun e => hji e.symm)] at hj
          exact mono j _ w w' hg hgw (hr j hj)
      · obtain ⟨τ, ρ, e1, e2, _⟩ := rem_split (by simpa using hs) (mem_rem.2 ⟨hlt, hun⟩)
        rw [e2]
        rw [e1] at hf
        simp only [List.length_append, List.length_cons] at hf ⊢
        omega
    · refine fill_at _ _ V d l 0 a0 a0 rfl rfl fun q o' hq hod => ?_
      rw [Nat.zero_add]
      have hq' : l.toArray[q]? = some o' := by simpa using hq
      have hql : q < l.length := (List.getElem?_eq_some_iff.1 hq).1
      by_cases hqi : q = i
      · subst hqi; rw [hun']; simp
      · have h1 := (hB' i o ho).2 q (by simpa using hql)
        have hdc : (o.looksAt l.toArray).contains d = true := by simpa using hd
        simp only [hqi, beq_iff_eq, hq', Option.bind_some, hod, hdc, Bool.not_true, Bool.false_or, Bool.or_eq_true, Bool.and_eq_true, decide_eq_true_eq, false_or] at h1
        rcases h1.2 with ⟨h2, h3⟩ | ⟨h2, h3⟩
        · rw [decide_eq_true h2]
          unfold needs at h3
          simp only [List.any_eq_true, Bool.and_eq_true, beq_iff_eq] at h3
          obtain ⟨e, he, hb, rfl⟩ := h3
          exact hdone e (by simpa using he) hb
        · rw [decide_eq_false (by omega)]
          by_cases hqd : listed.getD q false = true
          · exfalso
            have := htr.listed hcl q o' i (by omega) hq' (fun e he hb => hcl q o' hq' hqd e he hb) h3
            rw [hun'] at this
            cases this
          · simpa using hqd

/-- THE LAW. -/
theorem wp_region_inv {id : Nat} {l : List Oper} {Q : Exit → Act → World → Prop} {a : Act} {w : World} (G : World → World → Prop) (R : Nat → Value → World → Prop) (hm : P.follows .mixedOrders = true) (hB : invB l.toArray = true)
    (Gr : ∀ w, G w w) (Gt : ∀ w w1 w2, G w w1 → G w1 w2 → G w w2) (mono : ∀ i v w1 w2, G w.drew w1 → G w1 w2 → R i v w1 → R i v w2)
    (h : invList P l.toArray G w.drew R (Q .normal) l [] a) : (Code.region id l.toArray true).wp P Q a w := by
  refine Code.wp_mono (Q := Only (Q .normal)) (fun e a w hq => by cases e <;> first | exact hq | exact hq.elim) ?_
  refine wp_region_any hm ?_
  have h0 := inv_any hB Gt mono h l.toArray.size (Array.replicate l.toArray.size false) (fun _ => undef) w.drew (by simp) (fun j oj _ hl => by rw [getD_replicate0] at hl; cases hl) (Gr _) (fun j hj => by rw [getD_replicate0] at hj; cases hj) ?_
  · rw [fill_none] at h0
    · exact h0
    · intro j _; exact getD_replicate0 _ _
  · refine Nat.le_trans (List.length_filter_le _ _) ?_
    simp
end
end Go.Proofs.Ytkjfdaleamonaaa
