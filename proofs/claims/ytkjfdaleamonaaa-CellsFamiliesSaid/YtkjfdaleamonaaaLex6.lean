/- The law for a region that draws its order, where what an operation leaves may be known by a property alone, and where one operation may write what an earlier one has made: nobody may look at that behind it. -/
import Derived.Test.YtkjfdaleamonaaaLex5
import Derived.Test.YtkjfdaleamonaaaKit2
namespace Go.Proofs.Ytkjfdaleamonaaa
open Go Go.RowKit
section
variable {P : Program} {ops : Array Oper}
/-- Whose value an operation looks at. -/
def uses (o : Oper) (j : Nat) : Bool := o.after.toList.any fun e => Region.binds .any e && e.on == j && (match e.ground with | .data => true | .guard => true | _ => false)
theorem uses_needs {o : Oper} {j : Nat} (h : uses o j = true) : needs o j = true := by
  unfold uses at h
  unfold needs
  rw [List.any_eq_true] at h ⊢
  obtain ⟨e, he, h⟩ := h
  rw [Bool.and_eq_true] at h
  exact ⟨e, he, h.1⟩
/-- Each operation once, in the order of the text, from whatever world it may meet; T i: what operation i may turn; alive j: is told at the end. -/
def invList2 (P : Program) (ops : Array Oper) (G : World → World → Prop) (T : Nat → World → World → Prop) (alive : Nat → Bool) (w0 : World) (R : Nat → Value → World → Prop) (K : Act → World → Prop) : List Oper → List Value → Act → Prop
  | [], vs, a => ∀ w, G w0 w → (∀ j, j < vs.length → alive j = true → R j (vs.getD j undef) w) → K a w
  | o :: r, vs, a => (∀ w, G w0 w → (∀ j, j < vs.length → uses o j = true → R j (vs.getD j undef) w) → wpList P ops (Leaves a o.dst fun v w' => T vs.length w w' ∧ R vs.length v w') [o] a w) ∧
      ∀ v, invList2 P ops G T alive w0 R K r (vs ++ [v]) (a.put o.dst v)
theorem inv2_at {G : World → World → Prop} {T : Nat → World → World → Prop} {alive : Nat → Bool} {w0 : World} {R : Nat → Value → World → Prop} {K : Act → World → Prop} (V : Nat → Value) : ∀ (r : List Oper) (m : Nat) (a : Act), invList2 P ops G T alive w0 R K r ((List.range m).map V) a →
    (∀ k o, r[k]? = some o → ∀ w, G w0 w → (∀ j, j < m + k → uses o j = true → R j (V j) w) →
      wpList P ops (Leaves (fillD (fun j => decide (j < m + k)) V r m a) o.dst fun v w' => T (m + k) w w' ∧ R (m + k) v w') [o] (fillD (fun j => decide (j < m + k)) V r m a) w) ∧
    (∀ w, G w0 w → (∀ j, j < m + r.length → alive j = true → R j (V j) w) → K (fillD (fun _ => true) V r m a) w)
  | [], m, a, h => ⟨fun k o hk => by simp at hk, fun w hg hr => h w hg fun j hj hl => by
      have hj' : j < m := by simpa using hj
      rw [range_get V hj']; exact hr j (by simpa using hj') hl⟩
  | o :: r, m, a, h => by
    obtain ⟨h1, h2⟩ := h
    have h3 := h2 (V m)
    rw [range_snoc] at h3
    obtain ⟨i1, i2⟩ := inv2_at V r (m + 1) _ h3
    refine ⟨fun k o' hk w hg hr => ?_, fun w hg hr => ?_⟩
    · cases k with
      | zero =>
        obtain rfl : o = o' := by simpa using hk
        rw [Nat.add_zero] at hr ⊢
        rw [fill_none _ _ _ _ _ fun j hj => by simp; omega]
        have := h1 w hg fun j hj hn => by
          have hj' : j < m := by simpa using hj
          rw [range_get V hj']; exact hr j hj' hn
        simpa using this
      | succ k =>
        have := i1 k o' (by simpa using hk) w hg fun j hj hn => hr j (by omega) hn
        rw [show m + 1 + k = m + (k + 1) from by omega] at this
        have e : fillD (fun j => decide (j < m + (k + 1))) V (o :: r) m a = fillD (fun j => decide (j < m + (k + 1))) V r (m + 1) (a.put o.dst (V m)) := by
          show fillD _ V r (m + 1) _ = _
          rw [if_pos (by simp)]
        rw [e]
        exact this
    · have := i2 w hg fun j hj hl => hr j (by simp; omega) hl
      exact this
/-- Where place i is a bar, all else comes ahead of it or behind it; and what comes ahead and does not stand for good is looked at by nobody behind it. -/
def barB (ops : Array Oper) (st bar : Nat → Bool) : Bool :=
  (List.range ops.size).all fun i => !bar i || (List.range ops.size).all fun j =>
    (j == i || ((waits ops.toList []).getD i 0).testBit j || ((waits ops.toList []).getD j 0).testBit i || st j) &&
    (st j || !((waits ops.toList []).getD i 0).testBit j || (List.range ops.size).all fun k => match ops[k]? with
      | none => true
      | some ok => !uses ok j || k == i || ((waits ops.toList []).getD i 0).testBit k)
def aliveB (ops : Array Oper) (st bar : Nat → Bool) (j : Nat) : Bool := st j || (List.range ops.size).all fun i => !bar i || !((waits ops.toList []).getD i 0).testBit j
theorem inv2_any {l : List Oper} {G : World → World → Prop} {T : Nat → World → World → Prop} {w0 : World} {R : Nat → Value → World → Prop} {K : Act → World → Prop} {a0 : Act} {st bar : Nat → Bool} (hB : invB l.toArray = true) (hK : barB l.toArray st bar = true)
    (Gt : ∀ w w1 w2, G w w1 → G w1 w2 → G w w2) (TG : ∀ i w w', G w0 w → T i w w' → G w w') (mono : ∀ i j v w w', bar i = false → G w0 w → T i w w' → R j v w → R j v w')
    (monoS : ∀ j v w w', st j = true → G w0 w → G w w' → R j v w → R j v w')
    (h : invList2 P l.toArray G T (aliveB l.toArray st bar) w0 R K l [] a0) :
    ∀ (fuel : Nat) (listed : Array Bool) (V : Nat → Value) (w : World), listed.size = l.length → Closed l.toArray listed → G w0 w →
    (∀ j, listed.getD j false = true → (∀ i, bar i = true → listed.getD i false = true → ((waits l.toArray.toList []).getD i 0).testBit j = true → st j = true) → R j (V j) w) →
    (rem l.toArray listed).length ≤ fuel → wpAny P .any l.toArray (Only K) fuel listed (fillD (fun j => listed.getD j false) V l 0 a0) w := by
  unfold invB at hB
  simp only [Bool.and_eq_true, List.all_eq_true, List.mem_range] at hB
  obtain ⟨hsel, hB⟩ := hB
  have hB' : ∀ i oi, l.toArray[i]? = some oi → _ := fun i oi hi => by
    have := hB i (Array.getElem?_eq_some_iff.1 hi).1
    simp only [hi, Bool.and_eq_true, List.all_eq_true, List.mem_range] at this
    exact this
  have hback : ∀ i oi, l.toArray[i]? = some oi → ∀ e ∈ oi.after, Region.binds .any e = true → e.on < i := fun i oi hi e he hb => by
    have := (hB' i oi hi).1 e (by simpa using he)
    simpa [hb] using this
  have htr : Truth l.toArray (waits l.toArray.toList []) := waits_truth hback l.toArray.toList [] (fun j => by simp) (fun i t hi => by simp at hi)
  have hlen : (waits l.toArray.toList []).length = l.length := by rw [waits_length]; simp
  have hanc : ∀ listed : Array Bool, Closed l.toArray listed → ∀ i t, i < l.length → listed.getD i false = true → ((waits l.toArray.toList []).getD i 0).testBit t = true → listed.getD t false = true := fun listed hcl i t hi hli hb => by
    have hlt : i < l.toArray.size := by simpa using hi
    exact htr.listed hcl i _ t (by rw [hlen]; exact hi) (Array.getElem?_eq_getElem hlt) (hcl i _ (Array.getElem?_eq_getElem hlt) hli) hb
  unfold barB at hK
  simp only [List.all_eq_true, List.mem_range] at hK
  have hK1 : ∀ i, i < l.length → bar i = true → ∀ j, j < l.length → j = i ∨ ((waits l.toArray.toList []).getD i 0).testBit j = true ∨ ((waits l.toArray.toList []).getD j 0).testBit i = true ∨ st j = true := fun i hi hb j hj => by
    have := hK i (by simpa using hi)
    rw [hb, Bool.not_true, Bool.false_or, List.all_eq_true] at this
    have := this j (List.mem_range.2 (by simpa using hj))
    simp only [Bool.and_eq_true, Bool.or_eq_true, beq_iff_eq] at this
    rcases this.1 with ((h | h) | h) | h
    · exact .inl h
    · exact .inr (.inl h)
    · exact .inr (.inr (.inl h))
    · exact .inr (.inr (.inr h))
  have hK2 : ∀ i, i < l.length → bar i = true → ∀ j, j < l.length → ((waits l.toArray.toList []).getD i 0).testBit j = true → st j = false → ∀ k o, l.toArray[k]? = some o → uses o j = true → k = i ∨ ((waits l.toArray.toList []).getD i 0).testBit k = true := fun i hi hb j hj ht hs k o hk hn => by
    have := hK i (by simpa using hi)
    rw [hb, Bool.not_true, Bool.false_or, List.all_eq_true] at this
    have := this j (List.mem_range.2 (by simpa using hj))
    simp only [Bool.and_eq_true, Bool.or_eq_true, hs, ht, Bool.not_true, List.all_eq_true] at this
    have h3 := this.2
    simp at h3
    have hkl : k < l.length := by have := (Array.getElem?_eq_some_iff.1 hk).1; simpa using this
    have h4 := h3 k hkl
    have hk' : l[k]? = some o := by simpa using hk
    simp [hk', hn] at h4
    rcases h4 with h | h
    · exact .inl h
    · exact .inr h
  have hall : ∀ listed : Array Bool, listed.size = l.length → Region.ready .any l.toArray listed = [] → ∀ i, i < l.length → listed.getD i false = true := fun listed hs hr i hi =>
    rem_nil hback listed (by simpa using hs) hr i (by simpa using hi)
  have hend : ∀ (listed : Array Bool) (V : Nat → Value) (w : World), (∀ i, i < l.length → listed.getD i false = true) → G w0 w → (∀ j, listed.getD j false = true → (∀ i, bar i = true → listed.getD i false = true → ((waits l.toArray.toList []).getD i 0).testBit j = true → st j = true) → R j (V j) w) →
      listed.size = l.length → K (fillD (fun j => listed.getD j false) V l 0 a0) w := fun listed V w hd hg hr hsz => by
    have := (inv2_at V l 0 a0 h).2 w hg fun j hj hl => hr j (hd j (by simpa using hj)) fun i hb hi ht => by
      unfold aliveB at hl
      rw [Bool.or_eq_true] at hl
      rcases hl with hl | hl
      · exact hl
      · rw [List.all_eq_true] at hl
        have hil : i < l.length := by
          rcases Nat.lt_or_ge i listed.size with h | h
          · omega
          · simp [Nat.not_lt.2 h] at hi
        have := hl i (List.mem_range.2 (by simpa using hil))
        rw [hb, ht] at this; simp at this
    rw [fill_congr _ (fun _ => true) V V l 0 a0 fun j _ hj => ⟨hd j (by simpa using hj), fun _ => rfl⟩]
    exact this
  intro fuel
  induction fuel with
  | zero =>
    intro listed V w hs hcl hg hr hf
    have hnil : rem l.toArray listed = [] := List.eq_nil_of_length_eq_zero (by omega)
    have hd : ∀ i, i < l.length → listed.getD i false = true := fun i hi => by
      by_cases hd : listed.getD i false = true
      · exact hd
      · exfalso
        have : i ∈ rem l.toArray listed := mem_rem.2 ⟨by simpa using hi, by
          have : i < listed.size := by omega
          simp [this] at hd ⊢; exact hd⟩
        rw [hnil] at this
        cases this
    refine ⟨?_, hend listed V w hd hg hr hs⟩
    cases hrd : Region.ready .any l.toArray listed with
    | nil => rfl
    | cons i q =>
      have hi : i ∈ Region.ready .any l.toArray listed := by rw [hrd]; simp
      obtain ⟨hun, o, ho, _⟩ := mem_ready.1 hi
      have : i ∈ rem l.toArray listed := mem_rem.2 ⟨(Array.getElem?_eq_some_iff.1 ho).1, hun⟩
      rw [hnil] at this
      cases this
  | succ fuel ih =>
    intro listed V w hs hcl hg hr hf
    refine ⟨fun hrd => hend listed V w (hall listed hs hrd) hg hr hs, fun i hi => ?_⟩
    obtain ⟨hun, o, ho, hdone⟩ := mem_ready.1 hi
    have hlt : i < l.toArray.size := (Array.getElem?_eq_some_iff.1 ho).1
    have hltl : i < l.length := by simpa using hlt
    have hlis : i < listed.size := by omega
    have hun' : listed.getD i false = false := by simp [hlis] at hun ⊢; exact hun
    have hol : l[i]? = some o := by simpa using ho
    have hin : ∀ q, listed.getD q false = true → q < l.length := fun q hq => by
      rcases Nat.lt_or_ge q listed.size with h | h
      · omega
      · simp [Nat.not_lt.2 h] at hq
    have hst := (inv2_at V l 0 a0 h).1 i o hol w hg fun j hj hn => by
      have hdj : listed.getD j false = true := by
        have hn' := uses_needs hn
        unfold needs at hn'
        simp only [List.any_eq_true, Bool.and_eq_true, beq_iff_eq] at hn'
        obtain ⟨e, he, hb, rfl⟩ := hn'
        exact hdone e (by simpa using he) hb
      refine hr j hdj fun i' hb' hl' ht' => ?_
      cases hsj : st j with
      | true => rfl
      | false =>
        exfalso
        rcases hK2 i' (hin i' hl') hb' j (hin j hdj) ht' hsj i o ho hn with h | h
        · rw [← h, hun'] at hl'; cases hl'
        · have := hanc listed hcl i' i (hin i' hl') hl' h
          rw [hun'] at this; cases this
    rw [Nat.zero_add] at hst
    have hsel' : ∀ cs b, o.op ≠ .select cs b := by
      intro cs b hc
      unfold Region.noSelect at hsel
      simp only [Array.all_eq_true] at hsel
      have := hsel i (by simpa using hlt)
      rw [(Array.getElem?_eq_some_iff.1 ho).2] at this
      rw [hc] at this
      simp at this
    have hsv := stepV_congr (a := fillD (fun j => listed.getD j false) V l 0 a0) hsel' (by rw [fill_size, fill_size]) (fun d hd => ?_) (stepV_of_list hst)
    · refine stepV_wpOp ho ?_ hsv
      rintro v w' ⟨hgw, hR⟩
      rw [fill_take (fun j => listed.getD j false) V v l 0 a0 i o hol (by rw [Nat.zero_add]; exact hun') fun q o' hq hne d hd1 hd2 => by
        have h1 := (hB' i o ho).2 q (by have := (List.getElem?_eq_some_iff.1 hq).1; simpa using this)
        have hq' : l.toArray[q]? = some o' := by simpa using hq
        simp [hne, hq', hd2, hd1] at h1]
      have hcl' := hcl.set hi
      have e : (fun j => if j = 0 + i then true else listed.getD j false) = fun j => (listed.setIfInBounds i true).getD j false := by
        funext j
        rw [Nat.zero_add]
        by_cases hj : j = i
        · subst hj; simp [hlis]
        · rw [if_neg hj, getD_set_ne false (fun e => hj e.symm)]
      rw [e]
      refine ih _ _ w' (by simpa using hs) hcl' (Gt _ _ _ hg (TG i _ _ hg hgw)) (fun j hj hal => ?_) ?_
      · rw [Nat.zero_add]
        by_cases hji : j = i
        · subst hji; rw [if_pos rfl]; exact hR
        · rw [if_neg hji]
          rw [getD_set_ne false (fun e => hji e.symm)] at hj
          have hold := hr j hj fun i' hb' hl' ht' => hal i' hb' (by
            by_cases h : i' = i
            · subst h; simp [hlis]
            · rw [getD_set_ne false (fun e => h e.symm)]; exact hl') ht'
          cases hbi : bar i with
          | false => exact mono i j _ w w' hbi hg hgw hold
          | true =>
            refine monoS j _ w w' ?_ hg (TG i _ _ hg hgw) hold
            rcases hK1 i hltl hbi j (hin j hj) with h | h | h | h
            · exact absurd h hji
            · exact hal i hbi (by simp [hlis]) h
            · have := hanc listed hcl j i (hin j hj) hj h
              rw [hun'] at this; cases this
            · exact h
      · obtain ⟨τ, ρ, e1, e2, _⟩ := rem_split (by simpa using hs) (mem_rem.2 ⟨hlt, hun⟩)
        rw [e2]
        rw [e1] at hf
        simp only [List.length_append, List.length_cons] at hf ⊢
        omega
    · refine fill_at _ _ V d l 0 a0 a0 rfl rfl fun q o' hq hod => ?_
      rw [Nat.zero_add]
      have hq' : l.toArray[q]? = some o' := by simpa using hq
      have hql : q < l.length := (List.getElem?_eq_some_iff.1 hq).1
      by_cases hqi : q = i
      · subst hqi; rw [hun']; simp
      · have h1 := (hB' i o ho).2 q (by simpa using hql)
        have hdc : (o.looksAt l.toArray).contains d = true := by simpa using hd
        simp only [hqi, beq_iff_eq, hq', Option.bind_some, hod, hdc, Bool.not_true, Bool.false_or, Bool.or_eq_true, Bool.and_eq_true, decide_eq_true_eq, false_or] at h1
        rcases h1.2 with ⟨h2, h3⟩ | ⟨h2, h3⟩
        · rw [decide_eq_true h2]
          unfold needs at h3
          simp only [List.any_eq_true, Bool.and_eq_true, beq_iff_eq] at h3
          obtain ⟨e, he, hb, rfl⟩ := h3
          exact hdone e (by simpa using he) hb
        · rw [decide_eq_false (by omega)]
          by_cases hqd : listed.getD q false = true
          · exfalso
            have := htr.listed hcl q o' i (by omega) hq' (fun e he hb => hcl q o' hq' hqd e he hb) h3
            rw [hun'] at this
            cases this
          · simpa using hqd
/-- What is known of a value for as long as all that lies in memory stays. -/
abbrev SP := {p : Value → World → Prop // ∀ v w w', Below w.heap.size w w' → p v w → p v w'}
/-- A value, or what is known of it. -/
abbrev Want := Sum Value SP
def Want.holds : Want → Value → World → Prop
  | .inl u, v, _ => v = u
  | .inr p, v, w => p.1 v w
def Want.fixed : Want → Bool
  | .inl _ => true
  | .inr _ => false
def wantAt (L : List Want) (j : Nat) : Want := L.getD j (.inl undef)
def Turns (B : Nat) (bar : List Nat) (i : Nat) (x y : World) : Prop := match bar.contains i with
  | true => Below B x y
  | false => Below x.heap.size x y
/-- THE LAW. -/
theorem wp_region_inw {id : Nat} {l : List Oper} {Q : Exit → Act → World → Prop} {a : Act} {w : World} (L : List Want) (bar : List Nat) (hm : P.follows .mixedOrders = true) (hB : invB l.toArray = true)
    (hK : barB l.toArray (fun j => (wantAt L j).fixed) (fun i => bar.contains i) = true)
    (h : invList2 P l.toArray (Below w.heap.size) (Turns w.heap.size bar) (aliveB l.toArray (fun j => (wantAt L j).fixed) (fun i => bar.contains i)) w.drew (fun j v w => (wantAt L j).holds v w) (Q .normal) l [] a) : (Code.region id l.toArray true).wp P Q a w := by
  refine Code.wp_mono (Q := Only (Q .normal)) (fun e a w hq => by cases e <;> first | exact hq | exact hq.elim) ?_
  refine wp_region_any hm ?_
  have hsz : ∀ {x : World}, Below w.heap.size w.drew x → w.heap.size ≤ x.heap.size := fun hx => hx.size
  have h0 := inv2_any (w0 := w.drew) (R := fun j v w => (wantAt L j).holds v w) hB hK (fun _ _ _ h1 h2 => h1.trans h2) (fun i x y hg ht => by
      unfold Turns at ht
      split at ht
      · exact ht
      · exact ht.mono (hsz hg)) (fun i j v x y hbi hg ht hr => by
      unfold Turns at ht
      rw [hbi] at ht
      cases e : wantAt L j with
      | inl u => rw [e] at hr; exact hr
      | inr p => rw [e] at hr; exact p.2 v x y ht hr) (fun j v x y hs hg ht hr => by
      cases e : wantAt L j with
      | inl u => rw [e] at hr; exact hr
      | inr p => rw [e] at hs; cases hs) h l.toArray.size (Array.replicate l.toArray.size false) (fun _ => undef) w.drew (by simp) (fun j oj _ hl => by rw [getD_replicate0] at hl; cases hl) ((Below.refl _ _)) (fun j hj => by rw [getD_replicate0] at hj; cases hj) ?_
  · rw [fill_none] at h0
    · exact h0
    · intro j _; exact getD_replicate0 _ _
  · refine Nat.le_trans (List.length_filter_le _ _) ?_
    simp
theorem inw_cons {G : World → World → Prop} {T : Nat → World → World → Prop} {alive : Nat → Bool} {w0 : World} {R : Nat → Value → World → Prop} {K : Act → World → Prop} {o : Oper} {r : List Oper} {vs : List Value} {a : Act}
    (h1 : ∀ w, G w0 w → (∀ j, j < vs.length → uses o j = true → R j (vs.getD j undef) w) → wpList P ops (Leaves a o.dst fun v w' => T vs.length w w' ∧ R vs.length v w') [o] a w)
    (h2 : ∀ v, invList2 P ops G T alive w0 R K r (vs ++ [v]) (a.put o.dst v)) : invList2 P ops G T alive w0 R K (o :: r) vs a := ⟨h1, h2⟩
theorem inw_done {G : World → World → Prop} {T : Nat → World → World → Prop} {alive : Nat → Bool} {w0 : World} {R : Nat → Value → World → Prop} {K : Act → World → Prop} {vs : List Value} {a : Act}
    (h : ∀ w, G w0 w → (∀ j, j < vs.length → alive j = true → R j (vs.getD j undef) w) → K a w) : invList2 P ops G T alive w0 R K [] vs a := h
end
end Go.Proofs.Ytkjfdaleamonaaa
