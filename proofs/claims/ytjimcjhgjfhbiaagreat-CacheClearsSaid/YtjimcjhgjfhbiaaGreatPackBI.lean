/- Joined: LexA, DfC, FhA, FhB, FhC, FhM, FhL, FlA, FlB, FlC, WdX, RfX, RtA, FlD, DfB, CvG, CvH, NfJ, LbA, FlE, NfE, NfL, NcM, NcQ, LwA, VwC, CcB: contracts and plain laws, each with its own heading below. -/
import Derived.Test.YtjimcjhgjfhbiaaGreatPackBE
import Derived.Test.YtjimcjhgjfhbiaaGreatPackBF
import Derived.Test.YtjimcjhgjfhbiaaGreatPackBC
import Derived.Test.YtjimcjhgjfhbiaaGreatPackBH
import Derived.ChangeKeysEq
import Derived.Deep.RegionLawGrows
import Derived.Deep.AppendLies
import Derived.DeepKeys4
import Derived.Maps.OwnSet
import Derived.WideKeyEntry
import Derived.Test.YtjimcjhgjfhbiaaGreatPackBD
import Derived.Maps.AppendAt
import Derived.Test.YtjimcjhgjfhbiaaGreatPackBG
import Derived.Lib.MinMax
import Derived.Deep.CutRange
/- The law of Lex6 once more, where what an operation leaves may be known of an earlier one's value: a store into what an operation of the same region has made. -/
namespace Go.Proofs.YtjimcjhgjfhbiaaGreat
open Go Go.RowKit
section
variable {P : Program} {ops : Array Oper}
/-- A value; what is known of it; what is known, behind this operation, of an earlier one's value (a place that it writes). -/
inductive Want3 where
  | val (u : Value)
  | prop (p : SP)
  | of (i : Nat) (p : SP)
def Want3.fixed : Want3 → Bool
  | .val _ => true
  | _ => false
def want3At (L : List Want3) (j : Nat) : Want3 := L.getD j (.val undef)
def Want3.holdsAt (j : Nat) : Want3 → Value → (Nat → Value) → World → Prop
  | .val u, v, _, _ => v = u
  | .prop p, v, _, w => p.1 v w
  | .of i p, _, V, w => i < j → p.1 (V i) w
def dep3 (L : List Want3) (j i : Nat) : Bool := match want3At L j with
  | .of q _ => decide (q < j) && (q == i)
  | _ => false
theorem dep3_lt {L : List Want3} {j i : Nat} (h : dep3 L j i = true) : i < j := by
  unfold dep3 at h
  split at h
  · rw [Bool.and_eq_true, decide_eq_true_eq, beq_iff_eq] at h; omega
  · cases h
def dep3B (ops : Array Oper) (L : List Want3) : Bool := (List.range ops.size).all fun j => (List.range ops.size).all fun i => !dep3 L j i || ((waits ops.toList []).getD j 0).testBit i
theorem stepV_mono {o : Oper} {S S' : Value → World → Prop} {a : Act} {w : World} (hs : ∀ v w', S v w' → S' v w') (h : stepV P ops o S a w) : stepV P ops o S' a w := by
  unfold stepV at *
  split at h
  · rename_i hw
    rw [if_pos hw]
    exact Oper.wp_mono (fun a' w' hh => by obtain ⟨v, e, hv⟩ := hh; exact ⟨v, e, hs v w' hv⟩) h
  · rename_i hw
    rw [if_neg hw]
    obtain ⟨v, e, hv⟩ := h
    exact ⟨v, e, hs v w hv⟩
/-- Each operation once, in the order of the text, from whatever world it may meet; T i: what operation i may turn; alive j: is told at the end. -/
def invList3 (P : Program) (ops : Array Oper) (G : World → World → Prop) (T : Nat → World → World → Prop) (alive : Nat → Bool) (w0 : World) (R : Nat → (Nat → Value) → World → Prop) (K : Act → World → Prop) : List Oper → List Value → Act → Prop
  | [], vs, a => ∀ w, G w0 w → (∀ j, j < vs.length → alive j = true → R j (fun q => vs.getD q undef) w) → K a w
  | o :: r, vs, a => (∀ w, G w0 w → (∀ j, j < vs.length → uses o j = true → R j (fun q => vs.getD q undef) w) → wpList P ops (Leaves a o.dst fun v w' => T vs.length w w' ∧ R vs.length (fun q => (vs ++ [v]).getD q undef) w') [o] a w) ∧
      ∀ v, invList3 P ops G T alive w0 R K r (vs ++ [v]) (a.put o.dst v)
theorem inv3_at {G : World → World → Prop} {T : Nat → World → World → Prop} {alive : Nat → Bool} {w0 : World} {R : Nat → (Nat → Value) → World → Prop} {K : Act → World → Prop} {dep : Nat → Nat → Bool} (hlt : ∀ j i, dep j i = true → i < j) (hdep : ∀ j V V' w, (∀ i, (i = j ∨ dep j i = true) → V i = V' i) → R j V w → R j V' w) (V : Nat → Value) : ∀ (r : List Oper) (m : Nat) (a : Act), invList3 P ops G T alive w0 R K r ((List.range m).map V) a →
    (∀ k o, r[k]? = some o → ∀ w, G w0 w → (∀ j, j < m + k → uses o j = true → R j V w) →
      stepV P ops o (fun v w' => T (m + k) w w' ∧ R (m + k) (fun q => if q = m + k then v else V q) w') (fillD (fun j => decide (j < m + k)) V r m a) w) ∧
    (∀ w, G w0 w → (∀ j, j < m + r.length → alive j = true → R j V w) → K (fillD (fun _ => true) V r m a) w)
  | [], m, a, h => ⟨fun k o hk => by simp at hk, fun w hg hr => h w hg fun j hj hl => by
      have hj' : j < m := by simpa using hj
      refine hdep j V _ w (fun i hi => ?_) (hr j (by simpa using hj') hl)
      have hi' : i < m := by rcases hi with rfl | hi; exact hj'; have := hlt j i hi; omega
      exact (range_get V hi').symm⟩
  | o :: r, m, a, h => by
    obtain ⟨h1, h2⟩ := h
    have h3 := h2 (V m)
    rw [range_snoc] at h3
    obtain ⟨i1, i2⟩ := inv3_at hlt hdep V r (m + 1) _ h3
    refine ⟨fun k o' hk w hg hr => ?_, fun w hg hr => ?_⟩
    · cases k with
      | zero =>
        obtain rfl : o = o' := by simpa using hk
        rw [Nat.add_zero] at hr ⊢
        rw [fill_none _ _ _ _ _ fun j hj => by simp; omega]
        have := h1 w hg fun j hj hn => by
          have hj' : j < m := by simpa using hj
          refine hdep j V _ w (fun i hi => ?_) (hr j hj' hn)
          have hi' : i < m := by rcases hi with rfl | hi; exact hj'; have := hlt j i hi; omega
          exact (range_get V hi').symm
        refine stepV_mono (fun v w' hh => ⟨by simpa using hh.1, ?_⟩) (stepV_of_list this)
        have h5 := hh.2
        rw [show ((List.range m).map V).length = m by simp] at h5
        refine hdep m _ _ w' (fun i hi => ?_) h5
        rcases hi with rfl | hi
        · simp
        · have := hlt m i hi
          rw [if_neg (by omega), List.getD_eq_getElem?_getD, List.getElem?_append_left (by simpa using this)]
          have := range_get V this
          rw [List.getD_eq_getElem?_getD] at this
          exact this
      | succ k =>
        have := i1 k o' (by simpa using hk) w hg fun j hj hn => hr j (by omega) hn
        simp only [show m + 1 + k = m + (k + 1) from by omega] at this
        have e : fillD (fun j => decide (j < m + (k + 1))) V (o :: r) m a = fillD (fun j => decide (j < m + (k + 1))) V r (m + 1) (a.put o.dst (V m)) := by
          show fillD _ V r (m + 1) _ = _
          rw [if_pos (by simp)]
        rw [e]
        exact this
    · have := i2 w hg fun j hj hl => hr j (by simp; omega) hl
      exact this
theorem inv3_any {l : List Oper} {G : World → World → Prop} {T : Nat → World → World → Prop} {w0 : World} {R : Nat → (Nat → Value) → World → Prop} {K : Act → World → Prop} {a0 : Act} {st bar : Nat → Bool} {dep : Nat → Nat → Bool} (hlt' : ∀ j i, dep j i = true → i < j) (hdep : ∀ j V V' w, (∀ i, (i = j ∨ dep j i = true) → V i = V' i) → R j V w → R j V' w) (hdw : ∀ j i, j < l.length → dep j i = true → ((waits l.toArray.toList []).getD j 0).testBit i = true) (hB : invB l.toArray = true) (hK : barB l.toArray st bar = true)
    (Gt : ∀ w w1 w2, G w w1 → G w1 w2 → G w w2) (TG : ∀ i w w', G w0 w → T i w w' → G w w') (mono : ∀ i j v w w', bar i = false → G w0 w → T i w w' → R j v w → R j v w')
    (monoS : ∀ j v w w', st j = true → G w0 w → G w w' → R j v w → R j v w')
    (h : invList3 P l.toArray G T (aliveB l.toArray st bar) w0 R K l [] a0) :
    ∀ (fuel : Nat) (listed : Array Bool) (V : Nat → Value) (w : World), listed.size = l.length → Closed l.toArray listed → G w0 w →
    (∀ j, listed.getD j false = true → (∀ i, bar i = true → listed.getD i false = true → ((waits l.toArray.toList []).getD i 0).testBit j = true → st j = true) → R j V w) →
    (rem l.toArray listed).length ≤ fuel → wpAny P .any l.toArray (Only K) fuel listed (fillD (fun j => listed.getD j false) V l 0 a0) w := by
  unfold invB at hB
  simp only [Bool.and_eq_true, List.all_eq_true, List.mem_range] at hB
  obtain ⟨hsel, hB⟩ := hB
  have hB' : ∀ i oi, l.toArray[i]? = some oi → _ := fun i oi hi => by
    have := hB i (Array.getElem?_eq_some_iff.1 hi).1
    simp only [hi, Bool.and_eq_true, List.all_eq_true, List.mem_range] at this
    exact this
  have hback : ∀ i oi, l.toArray[i]? = some oi → ∀ e ∈ oi.after, Region.binds .any e = true → e.on < i := fun i oi hi e he hb => by
    have := (hB' i oi hi).1 e (by simpa using he)
    simpa [hb] using this
  have htr : Truth l.toArray (waits l.toArray.toList []) := waits_truth hback l.toArray.toList [] (fun j => by simp) (fun i t hi => by simp at hi)
  have hlen : (waits l.toArray.toList []).length = l.length := by rw [waits_length]; simp
  have hanc : ∀ listed : Array Bool, Closed l.toArray listed → ∀ i t, i < l.length → listed.getD i false = true → ((waits l.toArray.toList []).getD i 0).testBit t = true → listed.getD t false = true := fun listed hcl i t hi hli hb => by
    have hlt : i < l.toArray.size := by simpa using hi
    exact htr.listed hcl i _ t (by rw [hlen]; exact hi) (Array.getElem?_eq_getElem hlt) (hcl i _ (Array.getElem?_eq_getElem hlt) hli) hb
  unfold barB at hK
  simp only [List.all_eq_true, List.mem_range] at hK
  have hK1 : ∀ i, i < l.length → bar i = true → ∀ j, j < l.length → j = i ∨ ((waits l.toArray.toList []).getD i 0).testBit j = true ∨ ((waits l.toArray.toList []).getD j 0).testBit i = true ∨ st j = true := fun i hi hb j hj => by
    have := hK i (by simpa using hi)
    rw [hb, Bool.not_true, Bool.false_or, List.all_eq_true] at this
    have := this j (List.mem_range.2 (by simpa using hj))
    simp only [Bool.and_eq_true, Bool.or_eq_true, beq_iff_eq] at this
    rcases this.1 with ((h | h) | h) | h
    · exact .inl h
    · exact .inr (.inl h)
    · exact .inr (.inr (.inl h))
    · exact .inr (.inr (.inr h))
  have hK2 : ∀ i, i < l.length → bar i = true → ∀ j, j < l.length → ((waits l.toArray.toList []).getD i 0).testBit j = true → st j = false → ∀ k o, l.toArray[k]? = some o → uses o j = true → k = i ∨ ((waits l.toArray.toList []).getD i 0).testBit k = true := fun i hi hb j hj ht hs k o hk hn => by
    have := hK i (by simpa using hi)
    rw [hb, Bool.not_true, Bool.false_or, List.all_eq_true] at this
    have := this j (List.mem_range.2 (by simpa using hj))
    simp only [Bool.and_eq_true, Bool.or_eq_true, hs, ht, Bool.not_true, List.all_eq_true] at this
    have h3 := this.2
    simp at h3
    have hkl : k < l.length := by have := (Array.getElem?_eq_some_iff.1 hk).1; simpa using this
    have h4 := h3 k hkl
    have hk' : l[k]? = some o := by simpa using hk
    simp [hk', hn] at h4
    rcases h4 with h | h
    · exact .inl h
    · exact .inr h
  have hall : ∀ listed : Array Bool, listed.size = l.length → Region.ready .any l.toArray listed = [] → ∀ i, i < l.length → listed.getD i false = true := fun listed hs hr i hi =>
    rem_nil hback listed (by simpa using hs) hr i (by simpa using hi)
  have hend : ∀ (listed : Array Bool) (V : Nat → Value) (w : World), (∀ i, i < l.length → listed.getD i false = true) → G w0 w → (∀ j, listed.getD j false = true → (∀ i, bar i = true → listed.getD i false = true → ((waits l.toArray.toList []).getD i 0).testBit j = true → st j = true) → R j V w) →
      listed.size = l.length → K (fillD (fun j => listed.getD j false) V l 0 a0) w := fun listed V w hd hg hr hsz => by
    have := (inv3_at hlt' hdep V l 0 a0 h).2 w hg fun j hj hl => hr j (hd j (by simpa using hj)) fun i hb hi ht => by
      unfold aliveB at hl
      rw [Bool.or_eq_true] at hl
      rcases hl with hl | hl
      · exact hl
      · rw [List.all_eq_true] at hl
        have hil : i < l.length := by
          rcases Nat.lt_or_ge i listed.size with h | h
          · omega
          · simp [Nat.not_lt.2 h] at hi
        have := hl i (List.mem_range.2 (by simpa using hil))
        rw [hb, ht] at this; simp at this
    rw [fill_congr _ (fun _ => true) V V l 0 a0 fun j _ hj => ⟨hd j (by simpa using hj), fun _ => rfl⟩]
    exact this
  intro fuel
  induction fuel with
  | zero =>
    intro listed V w hs hcl hg hr hf
    have hnil : rem l.toArray listed = [] := List.eq_nil_of_length_eq_zero (by omega)
    have hd : ∀ i, i < l.length → listed.getD i false = true := fun i hi => by
      by_cases hd : listed.getD i false = true
      · exact hd
      · exfalso
        have : i ∈ rem l.toArray listed := mem_rem.2 ⟨by simpa using hi, by
          have : i < listed.size := by omega
          simp [this] at hd ⊢; exact hd⟩
        rw [hnil] at this
        cases this
    refine ⟨?_, hend listed V w hd hg hr hs⟩
    cases hrd : Region.ready .any l.toArray listed with
    | nil => rfl
    | cons i q =>
      have hi : i ∈ Region.ready .any l.toArray listed := by rw [hrd]; simp
      obtain ⟨hun, o, ho, _⟩ := mem_ready.1 hi
      have : i ∈ rem l.toArray listed := mem_rem.2 ⟨(Array.getElem?_eq_some_iff.1 ho).1, hun⟩
      rw [hnil] at this
      cases this
  | succ fuel ih =>
    intro listed V w hs hcl hg hr hf
    refine ⟨fun hrd => hend listed V w (hall listed hs hrd) hg hr hs, fun i hi => ?_⟩
    obtain ⟨hun, o, ho, hdone⟩ := mem_ready.1 hi
    have hlt : i < l.toArray.size := (Array.getElem?_eq_some_iff.1 ho).1
    have hltl : i < l.length := by simpa using hlt
    have hlis : i < listed.size := by omega
    have hun' : listed.getD i false = false := by simp [hlis] at hun ⊢; exact hun
    have hol : l[i]? = some o := by simpa using ho
    have hin : ∀ q, listed.getD q false = true → q < l.length := fun q hq => by
      rcases Nat.lt_or_ge q listed.size with h | h
      · omega
      · simp [Nat.not_lt.2 h] at hq
    have hst := (inv3_at hlt' hdep V l 0 a0 h).1 i o hol w hg fun j hj hn => by
      have hdj : listed.getD j false = true := by
        have hn' := uses_needs hn
        unfold needs at hn'
        simp only [List.any_eq_true, Bool.and_eq_true, beq_iff_eq] at hn'
        obtain ⟨e, he, hb, rfl⟩ := hn'
        exact hdone e (by simpa using he) hb
      refine hr j hdj fun i' hb' hl' ht' => ?_
      cases hsj : st j with
      | true => rfl
      | false =>
        exfalso
        rcases hK2 i' (hin i' hl') hb' j (hin j hdj) ht' hsj i o ho hn with h | h
        · rw [← h, hun'] at hl'; cases hl'
        · have := hanc listed hcl i' i (hin i' hl') hl' h
          rw [hun'] at this; cases this
    rw [Nat.zero_add] at hst
    have hsel' : ∀ cs b, o.op ≠ .select cs b := by
      intro cs b hc
      unfold Region.noSelect at hsel
      simp only [Array.all_eq_true] at hsel
      have := hsel i (by simpa using hlt)
      rw [(Array.getElem?_eq_some_iff.1 ho).2] at this
      rw [hc] at this
      simp at this
    have hsv := stepV_congr (a := fillD (fun j => listed.getD j false) V l 0 a0) hsel' (by rw [fill_size, fill_size]) (fun d hd => ?_) hst
    · refine stepV_wpOp ho ?_ hsv
      rintro v w' ⟨hgw, hR⟩
      rw [fill_take (fun j => listed.getD j false) V v l 0 a0 i o hol (by rw [Nat.zero_add]; exact hun') fun q o' hq hne d hd1 hd2 => by
        have h1 := (hB' i o ho).2 q (by have := (List.getElem?_eq_some_iff.1 hq).1; simpa using this)
        have hq' : l.toArray[q]? = some o' := by simpa using hq
        simp [hne, hq', hd2, hd1] at h1]
      have hcl' := hcl.set hi
      have e : (fun j => if j = 0 + i then true else listed.getD j false) = fun j => (listed.setIfInBounds i true).getD j false := by
        funext j
        rw [Nat.zero_add]
        by_cases hj : j = i
        · subst hj; simp [hlis]
        · rw [if_neg hj, getD_set_ne false (fun e => hj e.symm)]
      rw [e]
      refine ih _ _ w' (by simpa using hs) hcl' (Gt _ _ _ hg (TG i _ _ hg hgw)) (fun j hj hal => ?_) ?_
      · have hzi : (fun q => if q = 0 + i then v else V q) = fun q => if q = i then v else V q := by funext q; rw [Nat.zero_add]
        rw [hzi]
        by_cases hji : j = i
        · subst hji; exact hR
        · rw [getD_set_ne false (fun e => hji e.symm)] at hj
          refine hdep j V _ w' (fun q hq => ?_) ?_
          · show V q = if q = i then v else V q
            rw [if_neg]
            rintro rfl
            rcases hq with h | h
            · exact hji h.symm
            · have := hanc listed hcl j q (hin j hj) hj (hdw j q (hin j hj) h)
              rw [hun'] at this; cases this
          have hold := hr j hj fun i' hb' hl' ht' => hal i' hb' (by
            by_cases h : i' = i
            · subst h; simp [hlis]
            · rw [getD_set_ne false (fun e => h e.symm)]; exact hl') ht'
          cases hbi : bar i with
          | false => exact mono i j _ w w' hbi hg hgw hold
          | true =>
            refine monoS j _ w w' ?_ hg (TG i _ _ hg hgw) hold
            rcases hK1 i hltl hbi j (hin j hj) with h | h | h | h
            · exact absurd h hji
            · exact hal i hbi (by simp [hlis]) h
            · have := hanc listed hcl j i (hin j hj) hj h
              rw [hun'] at this; cases this
            · exact h
      · obtain ⟨τ, ρ, e1, e2, _⟩ := rem_split (by simpa using hs) (mem_rem.2 ⟨hlt, hun⟩)
        rw [e2]
        rw [e1] at hf
        simp only [List.length_append, List.length_cons] at hf ⊢
        omega
    · refine fill_at _ _ V d l 0 a0 a0 rfl rfl fun q o' hq hod => ?_
      rw [Nat.zero_add]
      have hq' : l.toArray[q]? = some o' := by simpa using hq
      have hql : q < l.length := (List.getElem?_eq_some_iff.1 hq).1
      by_cases hqi : q = i
      · subst hqi; rw [hun']; simp
      · have h1 := (hB' i o ho).2 q (by simpa using hql)
        have hdc : (o.looksAt l.toArray).contains d = true := by simpa using hd
        simp only [hqi, beq_iff_eq, hq', Option.bind_some, hod, hdc, Bool.not_true, Bool.false_or, Bool.or_eq_true, Bool.and_eq_true, decide_eq_true_eq, false_or] at h1
        rcases h1.2 with ⟨h2, h3⟩ | ⟨h2, h3⟩
        · rw [decide_eq_true h2]
          unfold needs at h3
          simp only [List.any_eq_true, Bool.and_eq_true, beq_iff_eq] at h3
          obtain ⟨e, he, hb, rfl⟩ := h3
          exact hdone e (by simpa using he) hb
        · rw [decide_eq_false (by omega)]
          by_cases hqd : listed.getD q false = true
          · exfalso
            have := htr.listed hcl q o' i (by omega) hq' (fun e he hb => hcl q o' hq' hqd e he hb) h3
            rw [hun'] at this
            cases this
          · simpa using hqd
/-- THE LAW. -/
theorem wp_region_ind {id : Nat} {l : List Oper} {Q : Exit → Act → World → Prop} {a : Act} {w : World} (L : List Want3) (bar : List Nat) (hm : P.follows .mixedOrders = true) (hB : invB l.toArray = true)
    (hK : barB l.toArray (fun j => (want3At L j).fixed) (fun i => bar.contains i) = true)
    (hD : dep3B l.toArray L = true)
    (h : invList3 P l.toArray (Below w.heap.size) (Turns w.heap.size bar) (aliveB l.toArray (fun j => (want3At L j).fixed) (fun i => bar.contains i)) w.drew (fun j V w => (want3At L j).holdsAt j (V j) V w) (Q .normal) l [] a) : (Code.region id l.toArray true).wp P Q a w := by
  refine Code.wp_mono (Q := Only (Q .normal)) (fun e a w hq => by cases e <;> first | exact hq | exact hq.elim) ?_
  refine wp_region_any hm ?_
  have hsz : ∀ {x : World}, Below w.heap.size w.drew x → w.heap.size ≤ x.heap.size := fun hx => hx.size
  have hmono : ∀ {i j : Nat} {V : Nat → Value} {x y : World}, Below x.heap.size x y → (want3At L j).holdsAt j (V j) V x → (want3At L j).holdsAt j (V j) V y := fun {i j V x y} hb hr => by
      cases e : want3At L j with
      | val u => rw [e] at hr; exact hr
      | prop p => rw [e] at hr; exact p.2 _ x y hb hr
      | of q p => rw [e] at hr; exact fun h => p.2 _ x y hb (hr h)
  have h0 := inv3_any (w0 := w.drew) (R := fun j V w => (want3At L j).holdsAt j (V j) V w) (dep := dep3 L) (fun j i hd => (dep3_lt hd)) (fun j V V' w hv hr => by
      cases e : want3At L j with
      | val u => rw [e] at hr; exact (hv j (.inl rfl)).symm.trans hr
      | prop p => rw [e] at hr; exact (hv j (.inl rfl)) ▸ hr
      | of q p =>
        rw [e] at hr
        by_cases hq : q < j
        · have := hv q (.inr (by unfold dep3; rw [e]; simp [hq]))
          exact fun h => this ▸ hr h
        · exact fun h => absurd h hq) (fun j i hj hd => by
      unfold dep3B at hD
      rw [List.all_eq_true] at hD
      have h1 := hD j (List.mem_range.2 (by simpa using hj))
      rw [List.all_eq_true] at h1
      have h2 := h1 i (List.mem_range.2 (by have := dep3_lt hd; simp; omega))
      rw [hd] at h2
      simpa using h2) hB hK (fun _ _ _ h1 h2 => h1.trans h2) (fun i x y hg ht => by
      unfold Turns at ht
      split at ht
      · exact ht
      · exact ht.mono (hsz hg)) (fun i j v x y hbi hg ht hr => by
      unfold Turns at ht
      rw [hbi] at ht
      exact hmono (i := i) ht hr) (fun j v x y hs hg ht hr => by
      cases e : want3At L j with
      | val u => rw [e] at hr; exact hr
      | prop p => rw [e] at hs; cases hs
      | of q p => rw [e] at hs; cases hs) h l.toArray.size (Array.replicate l.toArray.size false) (fun _ => undef) w.drew (by simp) (fun j oj _ hl => by rw [getD_replicate0] at hl; cases hl) ((Below.refl _ _)) (fun j hj => by rw [getD_replicate0] at hj; cases hj) ?_
  · rw [fill_none] at h0
    · exact h0
    · intro j _; exact getD_replicate0 _ _
  · refine Nat.le_trans (List.length_filter_le _ _) ?_
    simp
theorem ind_cons {G : World → World → Prop} {T : Nat → World → World → Prop} {alive : Nat → Bool} {w0 : World} {R : Nat → (Nat → Value) → World → Prop} {K : Act → World → Prop} {o : Oper} {r : List Oper} {vs : List Value} {a : Act}
    (h1 : ∀ w, G w0 w → (∀ j, j < vs.length → uses o j = true → R j (fun q => vs.getD q undef) w) → wpList P ops (Leaves a o.dst fun v w' => T vs.length w w' ∧ R vs.length (fun q => (vs ++ [v]).getD q undef) w') [o] a w)
    (h2 : ∀ v, invList3 P ops G T alive w0 R K r (vs ++ [v]) (a.put o.dst v)) : invList3 P ops G T alive w0 R K (o :: r) vs a := ⟨h1, h2⟩
theorem ind_done {G : World → World → Prop} {T : Nat → World → World → Prop} {alive : Nat → Bool} {w0 : World} {R : Nat → (Nat → Value) → World → Prop} {K : Act → World → Prop} {vs : List Value} {a : Act}
    (h : ∀ w, G w0 w → (∀ j, j < vs.length → alive j = true → R j (fun q => vs.getD q undef) w) → K a w) : invList3 P ops G T alive w0 R K [] vs a := h
end
end Go.Proofs.YtjimcjhgjfhbiaaGreat
/- Contracts of the library's slices.IndexFunc and slices.DeleteFunc at []uint64, with the function apiary/cover.Centres$1. -/
namespace Go.Proofs.YtjimcjhgjfhbiaaGreat
open Go.RowKit Go.Lib

end Go.Proofs.YtjimcjhgjfhbiaaGreat
/- A row of pairs in a field of a struct (cover.row in flood): what lies in memory; contracts of Len, Less, Swap. -/
namespace Go.Proofs.YtjimcjhgjfhbiaaGreat
open Go.RowKit Go.Lib

end Go.Proofs.YtjimcjhgjfhbiaaGreat
/- Contracts of container/heap's up and down at a row of pairs. -/
namespace Go.Proofs.YtjimcjhgjfhbiaaGreat
open Go.RowKit Go.Lib

end Go.Proofs.YtjimcjhgjfhbiaaGreat
/- A row of pairs in a field of a struct: contracts of Push and Pop, and of container/heap's Push and Pop. -/
namespace Go.Proofs.YtjimcjhgjfhbiaaGreat
open Go.RowKit Go.Lib

end Go.Proofs.YtjimcjhgjfhbiaaGreat
/- A map keyed by numbers of cells as a partial function; what m[z]++ does. -/
namespace Go.Proofs.YtjimcjhgjfhbiaaGreat
open Go.RowKit Go.Lib
open Go.Maps (Keyed)
open Go.ChangeMaps (setBlock heap_setBlock_same heap_setBlock_other)
open Go.WideElems (findIdx_arr findIdx_born modify_last)

end Go.Proofs.YtjimcjhgjfhbiaaGreat
/- The contract of (*flood).look. -/
namespace Go.Proofs.YtjimcjhgjfhbiaaGreat
open Go.RowKit Go.Lib Wd
open Go.ChangeMaps (setBlock heap_setBlock_same heap_setBlock_other)

end Go.Proofs.YtjimcjhgjfhbiaaGreat
/- Plain laws of the flood: bounds of what touches a box of the world; what a look and a pop do. -/
namespace Go.Proofs.YtjimcjhgjfhbiaaGreat
open Go.RowKit Go.Lib Wd

/-- Whether a cell touches a box in thirds. -/
def ttB (m : Nat) (lo hi : E2) (z : E2) : Bool := touchB (prG (hexL m z)) lo hi
theorem tt_iff (m : Nat) (lo hi z : E2) : ttB m lo hi z = true ↔ TouchP (hexC m z) lo hi := by
  unfold ttB
  rw [touchB_iff]
  unfold TouchP
  have e : ∀ k, k < 6 → prG (hexL m z) k = hexC m z k := fun k hk => hexL_get m z hk
  constructor
  · rintro ⟨⟨⟨a, a1, a2⟩, b, b1, b2⟩, ⟨⟨c, c1, c2⟩, d, d1, d2⟩, h⟩
    exact ⟨⟨⟨a, a1, by rw [← e a a1]; exact a2⟩, b, b1, by rw [← e b b1]; exact b2⟩, ⟨⟨c, c1, by rw [← e c c1]; exact c2⟩, d, d1, by rw [← e d d1]; exact d2⟩, fun k hk => by rw [← e k hk, ← e _ (show (k + 1) % 6 < 6 by omega)]; exact h k hk⟩
  · rintro ⟨⟨⟨a, a1, a2⟩, b, b1, b2⟩, ⟨⟨c, c1, c2⟩, d, d1, d2⟩, h⟩
    exact ⟨⟨⟨a, a1, by rw [e a a1]; exact a2⟩, b, b1, by rw [e b b1]; exact b2⟩, ⟨⟨c, c1, by rw [e c c1]; exact c2⟩, d, d1, by rw [e d d1]; exact d2⟩, fun k hk => by rw [e k hk, e _ (show (k + 1) % 6 < 6 by omega)]; exact h k hk⟩
end Go.Proofs.YtjimcjhgjfhbiaaGreat
/- The contract of cover.check. -/
namespace Go.Proofs.YtjimcjhgjfhbiaaGreat
open Go.RowKit Go.Lib Wd

end Go.Proofs.YtjimcjhgjfhbiaaGreat
/- The flood's steps as the walk of Box meets them: look, pop, Len. -/
namespace Go.Proofs.YtjimcjhgjfhbiaaGreat
open Go.RowKit Go.Lib Wd

end Go.Proofs.YtjimcjhgjfhbiaaGreat
/- Contracts of the numbers of 128 bits (apiaryref1.Wide): below nought, less (what WdM leaves of Wide). -/
namespace Go.Proofs.YtjimcjhgjfhbiaaGreat
open Go.RowKit

set_option maxHeartbeats 400000 in
theorem below_rep {h l : Nat} {A : Int} (hr : Rep h l A) (h1 : -170141183460469231731687303715884105728 ≤ A) (h2 : A < 170141183460469231731687303715884105728) (w : World) :
    Calls Tryz.prog 101 #[.agg #[.int .u64 h, .int .u64 l]] w fun e w' => e = .returned (.bool (decide (A < 0))) ∧ Below w.heap.size w w' := by
  have HE : Hid (((h : Int) / 9223372036854775808 == 1) = decide (A < 0)) := by
    show _ = _
    obtain ⟨a1, a2, a3⟩ := hr
    rw [Bool.eq_iff_iff]; simp; omega
  clear h1 h2 hr
  go_enter Tryz.func101, Tryz.ntmps101
  go_wp2
  go_ret
  exact ⟨ret_bool HE.out, (Below.refl _ _).alloc (Nat.le_refl _) _⟩

set_option maxHeartbeats 1000000 in
theorem less_rep {ah al bh bl : Nat} {A B : Int} (h1 : Rep ah al A) (h2 : Rep bh bl B) (k1 : -85070591730234615856620279821087277056 ≤ A) (k2 : A ≤ 85070591730234615865843651857942052864) (k3 : -85070591730234615856620279821087277056 ≤ B) (k4 : B ≤ 85070591730234615865843651857942052864) (w : World) :
    Calls Tryz.prog 76 #[.agg #[.int .u64 ah, .int .u64 al], .agg #[.int .u64 bh, .int .u64 bl]] w fun e w' => e = .returned (.bool (decide (A < B))) ∧ Below w.heap.size w w' := by
  have HE : Hid (decide (A + -B < 0) = decide (A < B)) := by show _ = _; rw [decide_eq_decide]; omega
  have HB : Hid (∀ h l, Rep h l (A + -B) → ∀ w, Calls Tryz.prog 101 #[.agg #[.int .u64 h, .int .u64 l]] w fun e w' => e = .returned (.bool (decide (A < B))) ∧ Below w.heap.size w w') := fun h l hr w => by
    have := below_rep hr (by omega) (by omega) w
    rw [HE.out] at this
    exact this
  have HT := Lib.hid h2
  have HA := Lib.hid h1
  have HC : Hid (∀ W w1 : World, Below W.heap.size W w1 → W.heap = ((w.alloc (.cells #[.int .u64 ah, .int .u64 al] 123)).alloc (.cells #[.int .u64 bh, .int .u64 bl] 123)).heap →
      w1.cell? ⟨w.heap.size, 0, none⟩ = some (.int .u64 ah) ∧ w1.cell? ⟨w.heap.size, 1, none⟩ = some (.int .u64 al)) := fun W w1 hb hW => by
    have hz : w.heap.size < W.heap.size := by rw [hW]; simp; omega
    have hg : W.heap[w.heap.size]? = some (.cells #[.int .u64 ah, .int .u64 al] 123) := by rw [hW, Below.heap_alloc _ _ _ (by simp)]; exact heap_new _ _ _ rfl
    rw [hb.cell (p := ⟨w.heap.size, 0, none⟩) hz, hb.cell (p := ⟨w.heap.size, 1, none⟩) hz, cell_of_row _ _ _ _ _ _ hg, cell_of_row _ _ _ _ _ _ hg]
    exact ⟨rfl, rfl⟩
  clear k1 k2 k3 k4 HE h1 h2
  go_enter Tryz.func76, Tryz.ntmps76
  go_wp2_with fail
  have hw0 : Hid (Below w.heap.size w ((w.alloc (.cells #[.int .u64 ah, .int .u64 al] 123)).alloc (.cells #[.int .u64 bh, .int .u64 bl] 123))) := ((Below.refl _ _).alloc (Nat.le_refl _) _).alloc (by simp) _
  go_region_with (first
    | (go_at_call 73; refine (turned_rep HT.out _).mono ?_; rintro e w1 ⟨h', l', rfl, hr1, hb1⟩; have HR1 := Lib.hid hr1; clear hr1; obtain ⟨c0, c1⟩ := HC.out _ _ hb1 rfl)
    | (go_at_call 72; refine (plus_rep HA.out HR1.out _).mono ?_; rintro e w2 ⟨h2, l2, rfl, hr2, hb2⟩; have HR2 := Lib.hid hr2; clear hr2)
    | (go_at_call 101; refine (HB.out _ _ HR2.out _).mono ?_; rintro e w3 ⟨rfl, hb3⟩))
  all_goals go_wp2
  all_goals go_ret
  all_goals exact ⟨rfl, below_later hw0.out.drew (by simp; omega) (below_later hb1 hb1.size (below_later hb2 hb2.size hb3))⟩

end Go.Proofs.YtjimcjhgjfhbiaaGreat
/- The contract of apiaryref9.cross (on WdX). -/
namespace Go.Proofs.YtjimcjhgjfhbiaaGreat
open Go.RowKit

def crossF (a b c d x y : Int) : Int :=
  if wrap64 (c - a) * wrap64 (y - b) < wrap64 (d - b) * wrap64 (x - a) then -1
  else if wrap64 (d - b) * wrap64 (x - a) < wrap64 (c - a) * wrap64 (y - b) then 1 else 0
theorem wrap64_bd (z : Int) : -9223372036854775808 ≤ wrap64 z ∧ wrap64 z ≤ 9223372036854775807 := by
  unfold wrap64; omega

set_option maxHeartbeats 2000000 in
theorem cross_any (a b c d x y : Int) (w : World) :
    Calls Tryz.prog 56 #[.agg #[.int .i64 a, .int .i64 b], .agg #[.int .i64 c, .int .i64 d], .int .i64 x, .int .i64 y] w fun e w' => e = .returned (.int .i64 (crossF a b c d x y)) ∧ Below w.heap.size w w' := by
  have T1 : Hid (∀ w : World, _) := fun w => times_rep (wrap64 (c - a)) (wrap64 (y - b)) (wrap64_bd _) (wrap64_bd _) w
  have T2 : Hid (∀ w : World, _) := fun w => times_rep (wrap64 (d - b)) (wrap64 (x - a)) (wrap64_bd _) (wrap64_bd _) w
  have k1 := prod_bound (wrap64_bd (c - a)) (wrap64_bd (y - b))
  have k2 := prod_bound (wrap64_bd (d - b)) (wrap64_bd (x - a))
  have HF : Hid (crossF a b c d x y = if wrap64 (c - a) * wrap64 (y - b) < wrap64 (d - b) * wrap64 (x - a) then -1 else if wrap64 (d - b) * wrap64 (x - a) < wrap64 (c - a) * wrap64 (y - b) then 1 else 0) := rfl
  generalize wrap64 (c - a) * wrap64 (y - b) = A at *
  generalize wrap64 (d - b) * wrap64 (x - a) = B at *
  have L1 : Hid (∀ (ah al bh bl : Nat), Rep ah al A → Rep bh bl B → ∀ w, Calls Tryz.prog 76 #[.agg #[.int .u64 ah, .int .u64 al], .agg #[.int .u64 bh, .int .u64 bl]] w fun e w' => e = .returned (.bool (decide (A < B))) ∧ Below w.heap.size w w') := fun _ _ _ _ h1 h2 w => less_rep h1 h2 k1.1 k1.2 k2.1 k2.2 w
  have L2 : Hid (∀ (ah al bh bl : Nat), Rep ah al B → Rep bh bl A → ∀ w, Calls Tryz.prog 76 #[.agg #[.int .u64 ah, .int .u64 al], .agg #[.int .u64 bh, .int .u64 bl]] w fun e w' => e = .returned (.bool (decide (B < A))) ∧ Below w.heap.size w w') := fun _ _ _ _ h1 h2 w => less_rep h1 h2 k2.1 k2.2 k1.1 k1.2 w
  have HC : Hid (∀ w1 : World, Below ((w.alloc (.cells #[.int .i64 a, .int .i64 b] 24)).alloc (.cells #[.int .i64 c, .int .i64 d] 24)).heap.size ((w.alloc (.cells #[.int .i64 a, .int .i64 b] 24)).alloc (.cells #[.int .i64 c, .int .i64 d] 24)) w1 →
      (w1.cell? ⟨w.heap.size, 0, none⟩ = some (.int .i64 a) ∧ w1.cell? ⟨w.heap.size, 1, none⟩ = some (.int .i64 b)) ∧ (w1.cell? ⟨w.heap.size + 1, 0, none⟩ = some (.int .i64 c) ∧ w1.cell? ⟨w.heap.size + 1, 1, none⟩ = some (.int .i64 d)) ∧ w.heap.size + 1 < w1.heap.size ∧ Below w.heap.size w w1) := fun w1 hb => by
    have h1 : ((w.alloc (.cells #[.int .i64 a, .int .i64 b] 24)).alloc (.cells #[.int .i64 c, .int .i64 d] 24)).heap[w.heap.size]? = some (.cells #[.int .i64 a, .int .i64 b] 24) := by
      rw [Below.heap_alloc _ _ _ (by simp)]; exact heap_new _ _ _ rfl
    have h2 : ((w.alloc (.cells #[.int .i64 a, .int .i64 b] 24)).alloc (.cells #[.int .i64 c, .int .i64 d] 24)).heap[w.heap.size + 1]? = some (.cells #[.int .i64 c, .int .i64 d] 24) := heap_new _ _ _ (by simp)
    have hz := hb.size
    rw [hb.cell (p := ⟨w.heap.size, 0, none⟩) (by simp; omega), hb.cell (p := ⟨w.heap.size, 1, none⟩) (by simp; omega), hb.cell (p := ⟨w.heap.size + 1, 0, none⟩) (by simp), hb.cell (p := ⟨w.heap.size + 1, 1, none⟩) (by simp),
      cell_of_row _ _ _ _ _ _ h1, cell_of_row _ _ _ _ _ _ h1, cell_of_row _ _ _ _ _ _ h2, cell_of_row _ _ _ _ _ _ h2]
    exact ⟨⟨rfl, rfl⟩, ⟨rfl, rfl⟩, by simp at hz; omega, ((Below.refl _ _).alloc (Nat.le_refl _) _).alloc (by simp) _ |>.trans (hb.mono (by simp; omega))⟩
  clear k1 k2
  go_enter Tryz.func56, Tryz.ntmps56
  go_wp2_with fail
  refine (T1.out _).mono ?_
  rintro e w1 ⟨h1, l1, rfl, hr1, hb1⟩
  obtain ⟨⟨c0, c1⟩, ⟨d0, d1⟩, hz1, hbw⟩ := HC.out _ hb1
  have hz0 : w.heap.size < w1.heap.size := by omega
  have HR1 := Lib.hid hr1
  have HB1 := Lib.hid hbw
  clear hb1 hr1 hbw HC T1
  go_wp2_with fail
  refine (T2.out _).mono ?_
  rintro e w2 ⟨h2, l2, rfl, hr2, hb2⟩
  obtain ⟨e0, e1, hz2⟩ := pair_kept hb2
  have HR2 := Lib.hid hr2
  have HB2 := Lib.hid (below_alloc' HB1.out hb2)
  clear hb2 hr2 c0 c1 d0 d1 T2 HB1
  go_wp2_with fail
  refine (L1.out _ _ _ _ HR1.out HR2.out _).mono ?_
  rintro e w3 ⟨rfl, hb3⟩
  obtain ⟨f0, f1, hz3⟩ := pair_kept hb3
  have g0 := (hb3.cell (p := ⟨w1.heap.size, 0, none⟩) (by simp; omega)).trans ((World.cell?_alloc_lt w2 _ _ hz2).trans e0)
  have g1 := (hb3.cell (p := ⟨w1.heap.size, 1, none⟩) (by simp; omega)).trans ((World.cell?_alloc_lt w2 _ _ hz2).trans e1)
  have HB3 := Lib.hid (below_alloc' HB2.out hb3)
  clear hb3 HB2 e0 e1 L1
  by_cases hab : A < B
  · go_wp2
    go_ret
    exact ⟨ret_int (by rw [HF.out, if_pos hab]), HB3.out⟩
  · go_wp2_with fail
    refine (L2.out _ _ _ _ HR2.out HR1.out _).mono ?_
    rintro e w4 ⟨rfl, hb4⟩
    have HB4 := Lib.hid (below_later HB3.out HB3.out.size hb4)
    clear hb4 HB3 L2
    by_cases hba : B < A
    · go_wp2
      go_ret
      exact ⟨ret_int (by rw [HF.out, if_neg (by omega), if_pos hba]), HB4.out⟩
    · go_wp2
      go_ret
      exact ⟨ret_int (by rw [HF.out, if_neg (by omega), if_neg (by omega)]), HB4.out⟩

end Go.Proofs.YtjimcjhgjfhbiaaGreat
/- Contracts of the document's answer: far, Centre, Hex. -/
namespace Go.Proofs.YtjimcjhgjfhbiaaGreat
open Go.RowKit Go.Lib Wd

def farB (x y : Int) : Bool := decide (x < -2147483648) || decide (2147483648 < x) || (decide (y < -2147483648) || decide (2147483648 < y))
theorem far_any (x y : Int) (w : World) : Calls Tryz.prog 54 #[.int .i64 x, .int .i64 y] w fun e w' => e = .returned (.bool (farB x y)) ∧ w' = w := by
  have HF : Hid (farB x y = (decide (x < -2147483648) || decide (2147483648 < x) || (decide (y < -2147483648) || decide (2147483648 < y)))) := rfl
  obtain ⟨b, hb⟩ : ∃ b, farB x y = b := ⟨_, rfl⟩
  rw [hb] at HF ⊢
  clear hb
  obtain ⟨b0, h0⟩ : ∃ b, decide (x < -2147483648) = b := ⟨_, rfl⟩
  obtain ⟨b1, h1⟩ : ∃ b, decide (2147483648 < x) = b := ⟨_, rfl⟩
  obtain ⟨b2, h2⟩ : ∃ b, decide (y < -2147483648) = b := ⟨_, rfl⟩
  obtain ⟨b3, h3⟩ : ∃ b, decide (2147483648 < y) = b := ⟨_, rfl⟩
  rw [h0, h1, h2, h3] at HF
  cases b0 <;> cases b1 <;> cases b2 <;> cases b3
  all_goals
    go_enter Tryz.func54, Tryz.ntmps54
    go_wp2
    go_ret
    exact ⟨ret_bool (by rw [HF.out]; rfl), rfl⟩
theorem put_two {w : World} {g : Nat} {a b : Value} {t : TypeId} (h : w.heap[g]? = some (.cells #[a, b] t (0, 0))) (c d : Value) : ((w.setCell ⟨g, 0, none⟩ c).setCell ⟨g, 1, none⟩ d).heap[g]? = some (.cells #[c, d] t (0, 0)) := by
  rw [Sort.setCell_eq, Sort.setCell_eq]
  simp [Sort.mapBlock, Array.getElem?_modify, h, Sort.onCells]
theorem mul_flip (x y : E2) : mulE x y = mulE y x := by unfold mulE; ext <;> simp only <;> grind
set_option maxRecDepth 100000 in
set_option maxHeartbeats 4000000 in
theorem rcentre_in (z : E2) (hz : Sm 1073741824 z) (r : Nat) (hr : r ≤ 12) (w : World) :
    Calls Tryz.prog 74 #[vE z, .int .i64 r] w fun e w' => e = .returned (.tuple #[.int .i64 (atE (12 - r) z).1, .int .i64 (atE (12 - r) z).2, .bool true]) ∧ Below w.heap.size w w' := by
  have hm : (12 : Int) - (r : Int) = ((12 - r : Nat) : Int) := by omega
  have hm12 : 12 - r ≤ 12 := by omega
  have HBE := Lib.hid (rbeta_in (12 - r) hm12)
  have hms := mid_sm hm12 (hz.mono (show (1073741824 : Int) ≤ 3221225472 by decide))
  have HMU := Lib.hid (rmul_in z (bE (12 - r)) (hz.mono (by decide)) ((bE_sm hm12).mono (by decide)) (by rw [mul_flip]; exact hms.mono (by decide)))
  have he : atE (12 - r) z = (52 * (mulE (bE (12 - r)) z).1 + 26 * (mulE (bE (12 - r)) z).2, 45 * (mulE (bE (12 - r)) z).2) := rfl
  rw [he]
  rw [mul_flip] at HMU
  generalize mulE (bE (12 - r)) z = u at *
  generalize bE (12 - r) = b at *
  generalize 12 - r = m at *
  obtain ⟨z1, z2⟩ := z
  obtain ⟨u1, u2⟩ := u
  simp only [vE] at *
  unfold Sm at hz hms
  simp only at hz hms
  obtain ⟨hz1, hz2, hz3, hz4⟩ := hz
  obtain ⟨hm1, hm2, hm3, hm4⟩ := hms
  have d1 : decide ((r : Int) < 0) = false := decide_eq_false (by omega)
  have d2 : decide (12 < (r : Int)) = false := decide_eq_false (by omega)
  have d3 : decide (z1 < -1073741824) = false := decide_eq_false (by omega)
  have d4 : decide (1073741824 < z1) = false := decide_eq_false (by omega)
  have d5 : decide (z2 < -1073741824) = false := decide_eq_false (by omega)
  have d6 : decide (1073741824 < z2) = false := decide_eq_false (by omega)
  have T0 : Hid (Two (w.alloc (.cells #[.int .i64 z1, .int .i64 z2] 70)) w.heap.size (.int .i64 z1) (.int .i64 z2)) := Two.of_row (t := 70) (f := _) (heap_new _ _ _ rfl)
  have B0 : Hid (Below w.heap.size w (w.alloc (.cells #[.int .i64 z1, .int .i64 z2] 70))) := (Below.refl _ _).alloc (Nat.le_refl _) _
  have s0 : w.heap.size < (w.alloc (.cells #[.int .i64 z1, .int .i64 z2] 70)).heap.size := by simp
  clear he
  go_enter Tryz.func74, Tryz.ntmps74
  go_upto_region 1 with (fail)
  generalize w.alloc (.cells #[.int .i64 z1, .int .i64 z2] 70) = w1 at *
  obtain ⟨t0, t1⟩ := T0.out
  go_wp2_with fail
  refine (HBE.out _).mono ?_
  rintro e w3 ⟨rfl, hb3⟩
  have K3 := hb3.alloc hb3.size (.cells #[.int .i64 b.1, .int .i64 b.2] 70)
  have P3 := Lib.hid (T0.out.later s0 K3)
  have B3 : Hid (Below w.heap.size w (w3.alloc (.cells #[.int .i64 b.1, .int .i64 b.2] 70))) := B0.out.trans (K3.mono B0.out.size)
  have T3 : Hid (Two (w3.alloc (.cells #[.int .i64 b.1, .int .i64 b.2] 70)) w3.heap.size (.int .i64 b.1) (.int .i64 b.2)) := Two.of_row (t := 70) (f := _) (heap_new _ _ _ rfl)
  have hs3 : w3.heap.size < (w3.alloc (.cells #[.int .i64 b.1, .int .i64 b.2] 70)).heap.size := by simp
  have hs4 : w.heap.size < w3.heap.size := by have := hb3.size; omega
  clear hb3 K3 T0 B0 t0 t1
  go_upto_region 4 with (fail)
  generalize w3.alloc (.cells #[.int .i64 b.1, .int .i64 b.2] 70) = w4 at *
  obtain ⟨t0, t1⟩ := T3.out
  obtain ⟨p0, p1⟩ := P3.out
  go_wp2_with fail
  refine (HMU.out _).mono ?_
  rintro e w5 ⟨rfl, hb5⟩
  have K5 := hb5.alloc hb5.size (.cells #[.int .i64 u1, .int .i64 u2] 70)
  have B5 : Hid (Below w.heap.size w (w5.alloc (.cells #[.int .i64 u1, .int .i64 u2] 70)).drew) := (B3.out.trans (K5.mono B3.out.size)).drew
  have T5 : Hid (Two (w5.alloc (.cells #[.int .i64 u1, .int .i64 u2] 70)) w5.heap.size (.int .i64 u1) (.int .i64 u2)) := Two.of_row (t := 70) (f := _) (heap_new _ _ _ rfl)
  have hs5 : w5.heap.size < (w5.alloc (.cells #[.int .i64 u1, .int .i64 u2] 70)).heap.size := by simp
  clear hb5 K5 T3 P3 B3 t0 t1 p0 p1
  go_upto_region 5 with (fail)
  generalize w5.alloc (.cells #[.int .i64 u1, .int .i64 u2] 70) = w6 at *
  obtain ⟨t0, t1⟩ := T5.out
  go_wp2_with (first | (with_reducible refine wp_region_lex (by kernel_rfl) (by kernel_rfl) ?_) | (with_reducible refine OnlyG.intro (by kernel_rfl) ?_))
  exact bodyPost_ret (v := .tuple #[.int .i64 (52 * u1 + 26 * u2), .int .i64 (45 * u2), .bool true]) (by simp [results, Tryz.results74, go_sem, *]) rfl ⟨rfl, B5.out⟩
theorem hexC_mul (m : Nat) (z : E2) (k : Nat) : spotE (mulE (3 * z.1 + (kapE k).1, 3 * z.2 + (kapE k).2) (bE m)) = hexC m z k := by
  unfold hexC midE
  generalize bE m = b
  generalize kapE k = c
  congr 1
  unfold mulE addE
  ext <;> simp only <;> grind
theorem sm_tri {z κ : E2} (hz : Sm 1073741824 z) (hk : Sm 2 κ) : Sm 3221225474 (3 * z.1 + κ.1, 3 * z.2 + κ.2) := by
  unfold Sm at *
  simp only
  omega
theorem mid_sm' {m : Nat} (hm : m ≤ 12) {y : E2} (hy : Sm 3221225474 y) : Sm 1000000000000000 (mulE (bE m) y) := by
  obtain ⟨q0, q1, q2, q3, q4, q5, q6, q7, q8, q9, q10, q11, q12⟩ := bE_tab
  obtain ⟨y1, y2⟩ := y
  unfold Sm at hy ⊢
  unfold mulE
  rcases upto12 hm with rfl | rfl | rfl | rfl | rfl | rfl | rfl | rfl | rfl | rfl | rfl | rfl | rfl <;> simp only [q0, q1, q2, q3, q4, q5, q6, q7, q8, q9, q10, q11, q12] at hy ⊢ <;> omega
set_option maxRecDepth 100000 in
set_option maxHeartbeats 8000000 in
theorem rhex_in (z : E2) (hz : Sm 1073741824 z) (r : Nat) (hr : r ≤ 12) (w : World) :
    Calls Tryz.prog 55 #[vE z, .int .i64 r] w fun e w' => ∃ ao c, e = .returned (.slice ao 6 c) ∧ w'.ownsRow w.heap.size 24 2 (.slice ao 6 c) 6 (prV (hexL (12 - r) z)) ∧ Below w.heap.size w w' := by
  obtain ⟨i1, hi1, hy0, hy1, hy2⟩ := info_parts info_pt
  have HCE := Lib.hid (rcentre_in z hz r hr)
  have hm : (12 : Int) - (r : Int) = ((12 - r : Nat) : Int) := by omega
  have hm12 : 12 - r ≤ 12 := by omega
  have HBE := Lib.hid (rbeta_in (12 - r) hm12)
  have HKK : Hid (∀ k, k < 6 → (∀ w, Calls Tryz.prog 51 #[vE (3 * z.1 + (kapE k).1, 3 * z.2 + (kapE k).2), vE (bE (12 - r))] w fun e w' => e = .returned (.tuple #[vE (mulE (3 * z.1 + (kapE k).1, 3 * z.2 + (kapE k).2) (bE (12 - r))), .bool true]) ∧ Below w.heap.size w w') ∧
      Sm 1000000000000000 (mulE (3 * z.1 + (kapE k).1, 3 * z.2 + (kapE k).2) (bE (12 - r))) ∧ spotE (mulE (3 * z.1 + (kapE k).1, 3 * z.2 + (kapE k).2) (bE (12 - r))) = prG (hexL (12 - r) z) k ∧ Sm 2 (kapE k)) := fun k hk => by
    have h1 := sm_tri hz (kap_sm k)
    have h2 := mid_sm' hm12 h1
    rw [mul_flip] at h2
    exact ⟨fun w => rmul_in _ _ (h1.mono (by decide)) ((bE_sm hm12).mono (by decide)) (h2.mono (by decide)) w, h2, by rw [hexC_mul, hexL_get _ _ hk], kap_sm k⟩
  have HTK : Hid (∀ k, k < 6 → prV ((hexL (12 - r) z).take (k + 1)) = prV ((hexL (12 - r) z).take k) ++ [.int .i64 (prG (hexL (12 - r) z) k).1, .int .i64 (prG (hexL (12 - r) z) k).2]) := fun k hk => by
    rw [take_pr _ (by rw [hexL_len]; exact hk), prV_snoc]
  have HTE : Hid ((hexL (12 - r) z).take 6 = hexL (12 - r) z) := List.take_of_length_le (by rw [hexL_len]; exact Nat.le_refl _)
  generalize hexL (12 - r) z = L at *
  generalize atE (12 - r) z = ce at *
  generalize bE (12 - r) = b at *
  generalize 12 - r = m at *
  obtain ⟨z1, z2⟩ := z
  obtain ⟨b1, b2⟩ := b
  simp only [vE] at *
  unfold Sm at hz
  simp only at hz
  obtain ⟨hz1, hz2, hz3, hz4⟩ := hz
  have T0 : Hid (Two (w.alloc (.cells #[.int .i64 z1, .int .i64 z2] 70)) w.heap.size (.int .i64 z1) (.int .i64 z2)) := Two.of_row (t := 70) (f := _) (heap_new _ _ _ rfl)
  have B0 : Hid (Below w.heap.size w (w.alloc (.cells #[.int .i64 z1, .int .i64 z2] 70))) := (Below.refl _ _).alloc (Nat.le_refl _) _
  have s0 : w.heap.size < (w.alloc (.cells #[.int .i64 z1, .int .i64 z2] 70)).heap.size := by simp
  go_enter Tryz.func55, Tryz.ntmps55
  go_upto_region 1 with (fail)
  generalize w.alloc (.cells #[.int .i64 z1, .int .i64 z2] 70) = w1 at *
  obtain ⟨t0, t1⟩ := T0.out
  go_wp2_with fail
  refine (HCE.out _).mono ?_
  rintro e w2 ⟨rfl, hb2⟩
  have T2 := Lib.hid (T0.out.later s0 hb2)
  have B2 := Lib.hid (B0.out.trans (hb2.mono B0.out.size))
  have s2 : w.heap.size < w2.heap.size := by have := hb2.size; omega
  clear hb2 T0 B0 t0 t1
  go_wp2_with fail
  refine (HBE.out _).mono ?_
  rintro e w3 ⟨rfl, hb3⟩
  have K3 := hb3.alloc hb3.size (.cells #[.int .i64 b1, .int .i64 b2] 70)
  have T3 := Lib.hid (T2.out.later s2 K3)
  have B3 : Hid (Below w.heap.size w (w3.alloc (.cells #[.int .i64 b1, .int .i64 b2] 70))) := B2.out.trans (K3.mono B2.out.size)
  have P3 : Hid (Two (w3.alloc (.cells #[.int .i64 b1, .int .i64 b2] 70)) w3.heap.size (.int .i64 b1) (.int .i64 b2)) := Two.of_row (t := 70) (f := _) (heap_new _ _ _ rfl)
  have s3 : w3.heap.size < (w3.alloc (.cells #[.int .i64 b1, .int .i64 b2] 70)).heap.size ∧ w.heap.size < w3.heap.size := ⟨by simp, by have := hb3.size; omega⟩
  clear hb3 K3 T2 B2
  go_upto_region 5 with (fail)
  generalize w3.alloc (.cells #[.int .i64 b1, .int .i64 b2] 70) = w4 at *
  go_wp2
  have hkl : (prV ((List.range 6).map kapE)).toArray = #[.int .i64 1, .int .i64 1, .int .i64 (-1), .int .i64 2, .int .i64 (-2), .int .i64 1, .int .i64 (-1), .int .i64 (-1), .int .i64 1, .int .i64 (-2), .int .i64 2, .int .i64 (-1)] := rfl
  have hka := prAt_new w4 ((List.range 6).map kapE) 128
  rw [hkl] at hka
  have K7 := (Below.refl w4.heap.size w4).alloc (Nat.le_refl _) (.cells #[.int .i64 1, .int .i64 1, .int .i64 (-1), .int .i64 2, .int .i64 (-2), .int .i64 1, .int .i64 (-1), .int .i64 (-1), .int .i64 1, .int .i64 (-2), .int .i64 2, .int .i64 (-1)] 128)
  have B7 := Lib.hid (B3.out.trans (K7.mono B3.out.size))
  have T7 := Lib.hid (T3.out.later (by omega) K7)
  have P7 := Lib.hid (P3.out.later s3.1 K7)
  have HKA := Lib.hid hka
  have s7 : w4.heap.size < (w4.alloc (.cells #[.int .i64 1, .int .i64 1, .int .i64 (-1), .int .i64 2, .int .i64 (-2), .int .i64 1, .int .i64 (-1), .int .i64 (-1), .int .i64 1, .int .i64 (-2), .int .i64 2, .int .i64 (-1)] 128)).heap.size := by simp
  clear hka hkl K7 B3 T3 P3
  generalize w4.alloc (.cells #[.int .i64 1, .int .i64 1, .int .i64 (-1), .int .i64 2, .int .i64 (-2), .int .i64 1, .int .i64 (-1), .int .i64 (-1), .int .i64 1, .int .i64 (-2), .int .i64 2, .int .i64 (-1)] 128) = w7 at *
  have hs7 := B7.out.size
  have HKG : Hid (∀ k, k < 6 → prG ((List.range 6).map kapE) k = kapE k) := fun k hk => by
    unfold prG
    rw [List.getD_eq_getElem?_getD, List.getElem?_map, List.getElem?_range hk]; rfl
  go_loopw [11, 12] (fun ov iv wr => ∃ (k : Nat) (oo : Option Addr) (oc : Nat), k ≤ 6 ∧ iv = .int .i64 k ∧ ov = .slice oo k oc ∧ Hid (wr.ownsRow w7.heap.size 24 2 (.slice oo k oc) k (prV (L.take k)) ∧ Below w7.heap.size w7 wr)) (fun _ i _ => 6 - (intOf i).toNat)
  case atStart => exact ⟨0, none, 0, by omega, rfl, rfl, World.ownsRow_nil _ _ _ _, Below.refl _ _⟩
  case round =>
    obtain ⟨k, oo, oc, hk, rfl, rfl, HI⟩ := hrel
    obtain ⟨wo, rfl⟩ : ∃ wo, wo = wr := ⟨_, rfl⟩
    by_cases hlt : k < 6
    · have q1 : decide ((k : Int) < 6) = true := decide_eq_true (by omega)
      obtain ⟨g, off, hg0, hg, hc⟩ := (HKA.out.below HI.out.2) (by simp)
      cases hg0
      obtain ⟨c0, c1⟩ := hc k (by simpa using hlt)
      rw [HKG.out k hlt] at c0 c1
      rw [Nat.zero_add] at c0 c1
      obtain ⟨hmu, hsm, hsp, hks⟩ := HKK.out k hlt
      have HTS := Lib.hid (HTK.out k hlt)
      generalize prG L k = x at *
      generalize kapE k = κ at *
      obtain ⟨κ1, κ2⟩ := κ
      simp only at hmu hsm hsp c0 c1
      have HMU := Lib.hid hmu
      have HSP := Lib.hid hsp
      generalize mulE (3 * z1 + κ1, 3 * z2 + κ2) (b1, b2) = u at *
      obtain ⟨u1, u2⟩ := u
      unfold Sm at hsm hks
      simp only at hsm hks
      obtain ⟨hs1, hs2, hs3, hs4⟩ := hsm
      obtain ⟨hk1, hk2, hk3, hk4⟩ := hks
      obtain ⟨t0, t1⟩ := T7.out.later (by omega) HI.out.2
      obtain ⟨p0, p1⟩ := P7.out.later (by omega) HI.out.2
      have hso := HI.out.2.size
      have hkk : (k : Int) < 6 := by omega
      have hkk0 : (0 : Int) ≤ (k : Int) := by omega
      clear hc hmu hsp
      go_upto_region 10 with (fail)
      have HC : Hid (∀ wx, Below wo.heap.size wo wx → Two wx w.heap.size (.int .i64 z1) (.int .i64 z2) ∧ Two wx w3.heap.size (.int .i64 b1) (.int .i64 b2)) := fun wx hx => ⟨T7.out.later (by omega) (HI.out.2.trans (hx.mono hso)), P7.out.later (by omega) (HI.out.2.trans (hx.mono hso))⟩
      have HD : Hid (∀ wx, Below wo.heap.size wo wx → wx.cell? ⟨w4.heap.size, k * 2, none⟩ = some (.int .i64 κ1) ∧ wx.cell? ⟨w4.heap.size, k * 2 + 1, none⟩ = some (.int .i64 κ2)) := fun wx hx => ⟨(hx.cell (p := ⟨w4.heap.size, _, none⟩) hg).trans c0, (hx.cell (p := ⟨w4.heap.size, _, none⟩) hg).trans c1⟩
      clear t0 t1 p0 p1 c0 c1
      refine wp_region_ind ([.val (.pointer (some ⟨w.heap.size, 0, none⟩)), .val (.int .i64 z1), .val (.int .i64 (3 * z1)), .val (.int .i64 k), .val (.pointer (some ⟨w4.heap.size, k * 2, none⟩)), .val (.pointer (some ⟨w4.heap.size, k * 2, none⟩)), .val (.int .i64 κ1), .val (.int .i64 (3 * z1 + κ1)), .val (.pointer (some ⟨w.heap.size, 1, none⟩)), .val (.int .i64 z2), .val (.int .i64 (3 * z2)), .val (.int .i64 k), .val (.pointer (some ⟨w4.heap.size, k * 2, none⟩)), .val (.pointer (some ⟨w4.heap.size, k * 2 + 1, none⟩)), .val (.int .i64 κ2), .val (.int .i64 (3 * z2 + κ2)), .val (.agg #[.int .i64 (3 * z1 + κ1), .int .i64 (3 * z2 + κ2)]), .val (.agg #[.int .i64 b1, .int .i64 b2]), .val (.tuple #[.agg #[.int .i64 u1, .int .i64 u2], .bool true]), .val (.tuple #[.agg #[.int .i64 u1, .int .i64 u2], .bool true]), .val (.agg #[.int .i64 u1, .int .i64 u2]), .val (.bool true), .prop (pNew wo.heap.size #[.int .i64 0, .int .i64 0] 70), .of 22 (pNew wo.heap.size #[.int .i64 u1, .int .i64 u2] 70), .val (.bool true)] : List Want3) [23] (by kernel_rfl) (by kernel_rfl) (by kernel_rfl) (by kernel_rfl) ?_
      refine ind_cons (fun wx hg hd => ?_) (fun v0 => ?_)
      · have hx := ((Below.refl wo.heap.size wo).drew).trans hg
        clear hd hg
        go_wp2
        exact ⟨_, rfl, Below.refl _ _, rfl⟩
      (try simp only [List.nil_append, Act.put, List.setIfInBounds_toArray, List.set_cons_zero, List.set_cons_succ])
      refine ind_cons (fun wx hg hd => ?_) (fun v1 => ?_)
      · have hx := ((Below.refl wo.heap.size wo).drew).trans hg
        (try (have ee : v0 = (.pointer (some ⟨w.heap.size, 0, none⟩) : Value) := hd 0 (by simp) (by decide); subst ee))
        clear hd hg
        obtain ⟨k1, k2⟩ := (HC.out _ hx).1
        go_wp2
        exact ⟨_, rfl, Below.refl _ _, rfl⟩
      (try simp only [List.cons_append, List.nil_append, Act.put, List.setIfInBounds_toArray, List.set_cons_zero, List.set_cons_succ])
      refine ind_cons (fun wx hg hd => ?_) (fun v2 => ?_)
      · have hx := ((Below.refl wo.heap.size wo).drew).trans hg
        (try (have ee : v1 = (.int .i64 z1 : Value) := hd 1 (by simp) (by decide); subst ee))
        clear hd hg
        go_wp2
        exact ⟨_, rfl, Below.refl _ _, rfl⟩
      (try simp only [List.cons_append, List.nil_append, Act.put, List.setIfInBounds_toArray, List.set_cons_zero, List.set_cons_succ])
      refine ind_cons (fun wx hg hd => ?_) (fun v3 => ?_)
      · have hx := ((Below.refl wo.heap.size wo).drew).trans hg
        clear hd hg
        go_wp2
        exact ⟨_, rfl, Below.refl _ _, rfl⟩
      (try simp only [List.cons_append, List.nil_append, Act.put, List.setIfInBounds_toArray, List.set_cons_zero, List.set_cons_succ])
      refine ind_cons (fun wx hg hd => ?_) (fun v4 => ?_)
      · have hx := ((Below.refl wo.heap.size wo).drew).trans hg
        (try (have ee : v3 = (.int .i64 k : Value) := hd 3 (by simp) (by decide); subst ee))
        clear hd hg
        go_wp2
        exact ⟨_, rfl, Below.refl _ _, rfl⟩
      (try simp only [List.cons_append, List.nil_append, Act.put, List.setIfInBounds_toArray, List.set_cons_zero, List.set_cons_succ])
      refine ind_cons (fun wx hg hd => ?_) (fun v5 => ?_)
      · have hx := ((Below.refl wo.heap.size wo).drew).trans hg
        (try (have ee : v4 = (.pointer (some ⟨w4.heap.size, k * 2, none⟩) : Value) := hd 4 (by simp) (by decide); subst ee))
        clear hd hg
        go_wp2
        exact ⟨_, rfl, Below.refl _ _, rfl⟩
      (try simp only [List.cons_append, List.nil_append, Act.put, List.setIfInBounds_toArray, List.set_cons_zero, List.set_cons_succ])
      refine ind_cons (fun wx hg hd => ?_) (fun v6 => ?_)
      · have hx := ((Below.refl wo.heap.size wo).drew).trans hg
        (try (have ee : v5 = (.pointer (some ⟨w4.heap.size, k * 2, none⟩) : Value) := hd 5 (by simp) (by decide); subst ee))
        clear hd hg
        obtain ⟨k1, k2⟩ := HD.out _ hx
        go_wp2
        exact ⟨_, rfl, Below.refl _ _, rfl⟩
      (try simp only [List.cons_append, List.nil_append, Act.put, List.setIfInBounds_toArray, List.set_cons_zero, List.set_cons_succ])
      refine ind_cons (fun wx hg hd => ?_) (fun v7 => ?_)
      · have hx := ((Below.refl wo.heap.size wo).drew).trans hg
        (try (have ee : v2 = (.int .i64 (3 * z1) : Value) := hd 2 (by simp) (by decide); subst ee))
        (try (have ee : v6 = (.int .i64 κ1 : Value) := hd 6 (by simp) (by decide); subst ee))
        clear hd hg
        go_wp2
        exact ⟨_, rfl, Below.refl _ _, rfl⟩
      (try simp only [List.cons_append, List.nil_append, Act.put, List.setIfInBounds_toArray, List.set_cons_zero, List.set_cons_succ])
      refine ind_cons (fun wx hg hd => ?_) (fun v8 => ?_)
      · have hx := ((Below.refl wo.heap.size wo).drew).trans hg
        clear hd hg
        go_wp2
        exact ⟨_, rfl, Below.refl _ _, rfl⟩
      (try simp only [List.cons_append, List.nil_append, Act.put, List.setIfInBounds_toArray, List.set_cons_zero, List.set_cons_succ])
      refine ind_cons (fun wx hg hd => ?_) (fun v9 => ?_)
      · have hx := ((Below.refl wo.heap.size wo).drew).trans hg
        (try (have ee : v8 = (.pointer (some ⟨w.heap.size, 1, none⟩) : Value) := hd 8 (by simp) (by decide); subst ee))
        clear hd hg
        obtain ⟨k1, k2⟩ := (HC.out _ hx).1
        go_wp2
        exact ⟨_, rfl, Below.refl _ _, rfl⟩
      (try simp only [List.cons_append, List.nil_append, Act.put, List.setIfInBounds_toArray, List.set_cons_zero, List.set_cons_succ])
      refine ind_cons (fun wx hg hd => ?_) (fun v10 => ?_)
      · have hx := ((Below.refl wo.heap.size wo).drew).trans hg
        (try (have ee : v9 = (.int .i64 z2 : Value) := hd 9 (by simp) (by decide); subst ee))
        clear hd hg
        go_wp2
        exact ⟨_, rfl, Below.refl _ _, rfl⟩
      (try simp only [List.cons_append, List.nil_append, Act.put, List.setIfInBounds_toArray, List.set_cons_zero, List.set_cons_succ])
      refine ind_cons (fun wx hg hd => ?_) (fun v11 => ?_)
      · have hx := ((Below.refl wo.heap.size wo).drew).trans hg
        clear hd hg
        go_wp2
        exact ⟨_, rfl, Below.refl _ _, rfl⟩
      (try simp only [List.cons_append, List.nil_append, Act.put, List.setIfInBounds_toArray, List.set_cons_zero, List.set_cons_succ])
      refine ind_cons (fun wx hg hd => ?_) (fun v12 => ?_)
      · have hx := ((Below.refl wo.heap.size wo).drew).trans hg
        (try (have ee : v11 = (.int .i64 k : Value) := hd 11 (by simp) (by decide); subst ee))
        clear hd hg
        go_wp2
        exact ⟨_, rfl, Below.refl _ _, rfl⟩
      (try simp only [List.cons_append, List.nil_append, Act.put, List.setIfInBounds_toArray, List.set_cons_zero, List.set_cons_succ])
      refine ind_cons (fun wx hg hd => ?_) (fun v13 => ?_)
      · have hx := ((Below.refl wo.heap.size wo).drew).trans hg
        (try (have ee : v12 = (.pointer (some ⟨w4.heap.size, k * 2, none⟩) : Value) := hd 12 (by simp) (by decide); subst ee))
        clear hd hg
        go_wp2
        exact ⟨_, rfl, Below.refl _ _, rfl⟩
      (try simp only [List.cons_append, List.nil_append, Act.put, List.setIfInBounds_toArray, List.set_cons_zero, List.set_cons_succ])
      refine ind_cons (fun wx hg hd => ?_) (fun v14 => ?_)
      · have hx := ((Below.refl wo.heap.size wo).drew).trans hg
        (try (have ee : v13 = (.pointer (some ⟨w4.heap.size, k * 2 + 1, none⟩) : Value) := hd 13 (by simp) (by decide); subst ee))
        clear hd hg
        obtain ⟨k1, k2⟩ := HD.out _ hx
        go_wp2
        exact ⟨_, rfl, Below.refl _ _, rfl⟩
      (try simp only [List.cons_append, List.nil_append, Act.put, List.setIfInBounds_toArray, List.set_cons_zero, List.set_cons_succ])
      refine ind_cons (fun wx hg hd => ?_) (fun v15 => ?_)
      · have hx := ((Below.refl wo.heap.size wo).drew).trans hg
        (try (have ee : v10 = (.int .i64 (3 * z2) : Value) := hd 10 (by simp) (by decide); subst ee))
        (try (have ee : v14 = (.int .i64 κ2 : Value) := hd 14 (by simp) (by decide); subst ee))
        clear hd hg
        go_wp2
        exact ⟨_, rfl, Below.refl _ _, rfl⟩
      (try simp only [List.cons_append, List.nil_append, Act.put, List.setIfInBounds_toArray, List.set_cons_zero, List.set_cons_succ])
      refine ind_cons (fun wx hg hd => ?_) (fun v16 => ?_)
      · have hx := ((Below.refl wo.heap.size wo).drew).trans hg
        (try (have ee : v7 = (.int .i64 (3 * z1 + κ1) : Value) := hd 7 (by simp) (by decide); subst ee))
        (try (have ee : v15 = (.int .i64 (3 * z2 + κ2) : Value) := hd 15 (by simp) (by decide); subst ee))
        clear hd hg
        go_wp2
        exact ⟨_, rfl, Below.refl _ _, rfl⟩
      (try simp only [List.cons_append, List.nil_append, Act.put, List.setIfInBounds_toArray, List.set_cons_zero, List.set_cons_succ])
      refine ind_cons (fun wx hg hd => ?_) (fun v17 => ?_)
      · have hx := ((Below.refl wo.heap.size wo).drew).trans hg
        clear hd hg
        obtain ⟨k1, k2⟩ := (HC.out _ hx).2
        go_wp2
        exact ⟨_, rfl, Below.refl _ _, rfl⟩
      (try simp only [List.cons_append, List.nil_append, Act.put, List.setIfInBounds_toArray, List.set_cons_zero, List.set_cons_succ])
      refine ind_cons (fun wx hg hd => ?_) (fun v18 => ?_)
      · have hx := ((Below.refl wo.heap.size wo).drew).trans hg
        (try (have ee : v16 = (.agg #[.int .i64 (3 * z1 + κ1), .int .i64 (3 * z2 + κ2)] : Value) := hd 16 (by simp) (by decide); subst ee))
        (try (have ee : v17 = (.agg #[.int .i64 b1, .int .i64 b2] : Value) := hd 17 (by simp) (by decide); subst ee))
        clear hd hg
        go_wp2_with fail
        refine (HMU.out _).mono ?_
        rintro e w' ⟨rfl, hb⟩
        go_wp2
        exact ⟨_, rfl, hb, rfl⟩
      (try simp only [List.cons_append, List.nil_append, Act.put, List.setIfInBounds_toArray, List.set_cons_zero, List.set_cons_succ])
      refine ind_cons (fun wx hg hd => ?_) (fun v19 => ?_)
      · have hx := ((Below.refl wo.heap.size wo).drew).trans hg
        (try (have ee : v18 = (.tuple #[.agg #[.int .i64 u1, .int .i64 u2], .bool true] : Value) := hd 18 (by simp) (by decide); subst ee))
        clear hd hg
        go_wp2
        exact ⟨_, rfl, Below.refl _ _, rfl⟩
      (try simp only [List.cons_append, List.nil_append, Act.put, List.setIfInBounds_toArray, List.set_cons_zero, List.set_cons_succ])
      refine ind_cons (fun wx hg hd => ?_) (fun v20 => ?_)
      · have hx := ((Below.refl wo.heap.size wo).drew).trans hg
        (try (have ee : v19 = (.tuple #[.agg #[.int .i64 u1, .int .i64 u2], .bool true] : Value) := hd 19 (by simp) (by decide); subst ee))
        clear hd hg
        go_wp2
        exact ⟨_, rfl, Below.refl _ _, rfl⟩
      (try simp only [List.cons_append, List.nil_append, Act.put, List.setIfInBounds_toArray, List.set_cons_zero, List.set_cons_succ])
      refine ind_cons (fun wx hg hd => ?_) (fun v21 => ?_)
      · have hx := ((Below.refl wo.heap.size wo).drew).trans hg
        (try (have ee : v19 = (.tuple #[.agg #[.int .i64 u1, .int .i64 u2], .bool true] : Value) := hd 19 (by simp) (by decide); subst ee))
        clear hd hg
        go_wp2
        exact ⟨_, rfl, Below.refl _ _, rfl⟩
      (try simp only [List.cons_append, List.nil_append, Act.put, List.setIfInBounds_toArray, List.set_cons_zero, List.set_cons_succ])
      refine ind_cons (fun wx hg hd => ?_) (fun v22 => ?_)
      · have hx := ((Below.refl wo.heap.size wo).drew).trans hg
        clear hd hg
        go_wp2
        exact ⟨_, rfl, (Below.refl _ _).alloc (Nat.le_refl _) _, _, rfl, hx.size, by simp, heap_new _ _ _ rfl⟩
      (try simp only [List.cons_append, List.nil_append, Act.put, List.setIfInBounds_toArray, List.set_cons_zero, List.set_cons_succ])
      refine ind_cons (fun wx hg hd => ?_) (fun v23 => ?_)
      · have hx := ((Below.refl wo.heap.size wo).drew).trans hg
        (try (have ee : v20 = (.agg #[.int .i64 u1, .int .i64 u2] : Value) := hd 20 (by simp) (by decide); subst ee))
        have hp22 : (pNew wo.heap.size #[.int .i64 0, .int .i64 0] 70 : SP).1 v22 wx := hd 22 (by simp) (by decide)
        clear hd
        obtain ⟨g, rfl, hg1, hg2, hg3⟩ := hp22
        have hP : Two2 wx g (.int .i64 0) (.int .i64 0) := Two2.of_row (t := 70) hg3
        obtain ⟨⟨y0, y1⟩, y2, y3⟩ := hP
        go_wp2
        exact ⟨undef, rfl, ((Below.refl _ wx).setCell (p := ⟨g, 0, none⟩) hg1 (.int .i64 u1)).setCell (p := ⟨g, 1, none⟩) hg1 (.int .i64 u2), fun _ => ⟨g, rfl, hg1, (by simpa using hg2), put_two hg3 (.int .i64 u1) (.int .i64 u2)⟩⟩
      (try simp only [List.cons_append, List.nil_append, Act.put])
      refine ind_cons (fun wx hg hd => ?_) (fun v24 => ?_)
      · have hx := ((Below.refl wo.heap.size wo).drew).trans hg
        (try (have ee : v21 = (.bool true : Value) := hd 21 (by simp) (by decide); subst ee))
        clear hd hg
        go_wp2
        exact ⟨_, rfl, Below.refl _ _, rfl⟩
      (try simp only [List.cons_append, List.nil_append, Act.put, List.setIfInBounds_toArray, List.set_cons_zero, List.set_cons_succ])
      refine ind_done (fun wx hg hd => ?_)
      have hx := ((Below.refl wo.heap.size wo).drew).trans hg
      (have ee : v0 = (.pointer (some ⟨w.heap.size, 0, none⟩) : Value) := hd 0 (by simp) (by kernel_rfl); subst ee)
      (have ee : v1 = (.int .i64 z1 : Value) := hd 1 (by simp) (by kernel_rfl); subst ee)
      (have ee : v2 = (.int .i64 (3 * z1) : Value) := hd 2 (by simp) (by kernel_rfl); subst ee)
      (have ee : v3 = (.int .i64 k : Value) := hd 3 (by simp) (by kernel_rfl); subst ee)
      (have ee : v4 = (.pointer (some ⟨w4.heap.size, k * 2, none⟩) : Value) := hd 4 (by simp) (by kernel_rfl); subst ee)
      (have ee : v5 = (.pointer (some ⟨w4.heap.size, k * 2, none⟩) : Value) := hd 5 (by simp) (by kernel_rfl); subst ee)
      (have ee : v6 = (.int .i64 κ1 : Value) := hd 6 (by simp) (by kernel_rfl); subst ee)
      (have ee : v7 = (.int .i64 (3 * z1 + κ1) : Value) := hd 7 (by simp) (by kernel_rfl); subst ee)
      (have ee : v8 = (.pointer (some ⟨w.heap.size, 1, none⟩) : Value) := hd 8 (by simp) (by kernel_rfl); subst ee)
      (have ee : v9 = (.int .i64 z2 : Value) := hd 9 (by simp) (by kernel_rfl); subst ee)
      (have ee : v10 = (.int .i64 (3 * z2) : Value) := hd 10 (by simp) (by kernel_rfl); subst ee)
      (have ee : v11 = (.int .i64 k : Value) := hd 11 (by simp) (by kernel_rfl); subst ee)
      (have ee : v12 = (.pointer (some ⟨w4.heap.size, k * 2, none⟩) : Value) := hd 12 (by simp) (by kernel_rfl); subst ee)
      (have ee : v13 = (.pointer (some ⟨w4.heap.size, k * 2 + 1, none⟩) : Value) := hd 13 (by simp) (by kernel_rfl); subst ee)
      (have ee : v14 = (.int .i64 κ2 : Value) := hd 14 (by simp) (by kernel_rfl); subst ee)
      (have ee : v15 = (.int .i64 (3 * z2 + κ2) : Value) := hd 15 (by simp) (by kernel_rfl); subst ee)
      (have ee : v16 = (.agg #[.int .i64 (3 * z1 + κ1), .int .i64 (3 * z2 + κ2)] : Value) := hd 16 (by simp) (by kernel_rfl); subst ee)
      (have ee : v17 = (.agg #[.int .i64 b1, .int .i64 b2] : Value) := hd 17 (by simp) (by kernel_rfl); subst ee)
      (have ee : v18 = (.tuple #[.agg #[.int .i64 u1, .int .i64 u2], .bool true] : Value) := hd 18 (by simp) (by kernel_rfl); subst ee)
      (have ee : v19 = (.tuple #[.agg #[.int .i64 u1, .int .i64 u2], .bool true] : Value) := hd 19 (by simp) (by kernel_rfl); subst ee)
      (have ee : v20 = (.agg #[.int .i64 u1, .int .i64 u2] : Value) := hd 20 (by simp) (by kernel_rfl); subst ee)
      (have ee : v21 = (.bool true : Value) := hd 21 (by simp) (by kernel_rfl); subst ee)
      have hp23 : (pNew wo.heap.size #[.int .i64 u1, .int .i64 u2] 70 : SP).1 v22 wx := hd 23 (by simp) (by kernel_rfl) (by decide)
      (have ee : v24 = (.bool true : Value) := hd 24 (by simp) (by kernel_rfl); subst ee)
      clear hd hg
      (try go_simp)
      obtain ⟨g, rfl, hg1, hg2, hg3⟩ := hp23
      obtain ⟨y0, y1⟩ : Two wx g (.int .i64 u1) (.int .i64 u2) := Two.of_row (t := 70) hg3
      have hown := own_later HI.out.1 hx
      have hbB := HI.out.2.trans (hx.mono hso)
      have hsb : w7.heap.size ≤ wx.heap.size := hbB.size
      have HBB := Lib.hid hbB
      have hxx : x = (52 * u1 + 26 * u2, 45 * u2) := HSP.out.symm
      have HXX := Lib.hid hxx
      clear hx HC HD HI hg3 hg1 hbB hxx HMU
      go_wp2_with (at_builtin; refine wpList_append_own _ rfl (.tmp 63) (.tmp 75) 105 rfl w7.heap.size 24 i1 (.agg #[.int .i64 0, .int .i64 0]) 2 16 Tryz.underlying105 hi1 hy0 hy1 hy2 rfl (by decide) _ _ _ rfl (hown.alloc _) ⟨wx.heap.size, 0, none⟩ 1 1 [.int .i64 (52 * u1 + 26 * u2), .int .i64 (45 * u2)] rfl rfl (cells_new _ _ _ _ rfl) (by simp [Value.oneCell']) (by unfold maxLen; omega) (by omega) (by simp; omega) ?_; intro v' w8 hown1 hgrow _)
      have HB8 : Hid (Below w7.heap.size w7 w8) := below_append (HBB.out.alloc hsb (.cells #[.int .i64 (52 * u1 + 26 * u2), .int .i64 (45 * u2)] 24)) (hown.alloc (.cells #[.int .i64 (52 * u1 + 26 * u2), .int .i64 (45 * u2)] 24)) (by simp; omega) hgrow
      obtain ⟨ao', c', rfl, _⟩ := own_form hown1
      have HO8 : Hid (w8.ownsRow w7.heap.size 24 2 (.slice ao' (k + 1) c') (k + 1) (prV (L.take (k + 1)))) := by rw [HTS.out, HXX.out]; exact hown1
      clear hown1 hgrow hown HBB y0 y1 hg2
      go_wp2
      go_roundw
      case rel => exact ⟨k + 1, ao', c', by omega, by go_num, rfl, HO8.out, HB8.out⟩
      case measure => simp [intOf]; omega
    · obtain rfl : k = 6 := by omega
      have q1 : decide (((6 : Nat) : Int) < 6) = false := by decide
      have hown := HI.out.1
      rw [HTE.out] at hown
      have HO := Lib.hid (own_base hown hs7)
      have HB := Lib.hid (B7.out.trans (HI.out.2.mono hs7))
      clear HI hown
      go_wp2
      go_ret
      exact ⟨oo, oc, rfl, HO.out, HB.out⟩
end Go.Proofs.YtjimcjhgjfhbiaaGreat
/- The contract of cover.Box. -/
namespace Go.Proofs.YtjimcjhgjfhbiaaGreat
open Go.RowKit Go.Lib Wd

end Go.Proofs.YtjimcjhgjfhbiaaGreat
/- Contract of cover.Centres: of Box's cells those whose centres lie in the box. -/
namespace Go.Proofs.YtjimcjhgjfhbiaaGreat
open Go.RowKit Go.Lib Wd Cv

end Go.Proofs.YtjimcjhgjfhbiaaGreat
/- Plain laws: a cell that touches a box of the world may be; how many cells touch a box. -/
namespace Go.Proofs.YtjimcjhgjfhbiaaGreat.Wd
open Go.Proofs.YtjimcjhgjfhbiaaGreat.Cv

end Go.Proofs.YtjimcjhgjfhbiaaGreat.Wd
/- What Box and Centres tell, as lists that rise; which cells touch a point, and parts of a box. -/
namespace Go.Proofs.YtjimcjhgjfhbiaaGreat
open Go.RowKit Go.Lib Wd Cv

/-- A point in a box that a cell has: it touches. -/
theorem touch_at {m : Nat} (hm : m ≤ 12) {z lo hi : E2} {x y : Int} (h1 : lo.1 ≤ x ∧ x ≤ hi.1) (h2 : lo.2 ≤ y ∧ y ≤ hi.2) (h : InZ m z ((3 * x : Int) : Rat) ((3 * y : Int) : Rat)) : TouchP (hexC m z) (triE lo) (triE hi) := by
  rw [touch_iff hm z (triE lo) (triE hi) (by simp only [triE]; omega) (by simp only [triE]; omega)]
  refine ⟨((3 * x : Int) : Rat), ((3 * y : Int) : Rat), ?_, ?_, ?_, ?_, h⟩ <;> simp only [triE] <;> rw [Rat.intCast_le_intCast] <;> omega
theorem ct_iff (R : Nat) (z lo hi : E2) : ctB R z lo hi = true ↔ bxOk lo hi = true ∧ okB R z = true ∧ TouchP (hexC (12 - R) z) (triE lo) (triE hi) := by
  unfold ctB
  rw [Bool.and_eq_true, Bool.and_eq_true, Int.toNat_natCast, ← tt_iff]
  rfl
/-- A point's cell touches whatever box has the point. -/
theorem ct_near {R : Nat} (hR : R ≤ 12) {u v : Int} (hu : 0 ≤ u ∧ u < 1073741824) (hv : 0 ≤ v ∧ v < 1073741824) {lo hi : E2} (h1 : lo.1 ≤ u ∧ u ≤ hi.1) (h2 : lo.2 ≤ v ∧ v ≤ hi.2) (hb : bxOk lo hi = true) : ctB R (nearE u v R) lo hi = true :=
  (ct_iff R _ lo hi).2 ⟨hb, near_ok0 hu hv hR, touch_at (by omega) h1 h2 (inZ_near hR)⟩
end Go.Proofs.YtjimcjhgjfhbiaaGreat
/- Contracts of apiarylaw3.Point, apiarylaw4.Some and apiarylaw5.Word at even y: the word of a point's cell. -/
namespace Go.Proofs.YtjimcjhgjfhbiaaGreat
open Go.RowKit Go.Lib Wd

theorem rem13 (r : Int) : (-13 < r.tmod 13 ∧ r.tmod 13 < 13) ∧ (r.tmod 13 + 13).tmod 13 = r % 13 := by
  have h : (-13 < r.tmod 13 ∧ r.tmod 13 < 13) ∧ (r.tmod 13 + 13) % 13 = r % 13 := by
    rcases Int.lt_or_le r 0 with h | h
    · have e : r.tmod 13 = -((-r) % 13) := by rw [← Int.tmod_eq_emod_of_nonneg (show 0 ≤ -r by omega), Int.neg_tmod, Int.neg_neg]
      omega
    · rw [Int.tmod_eq_emod_of_nonneg h]; omega
  refine ⟨h.1, ?_⟩
  rw [Int.tmod_eq_emod_of_nonneg (by omega)]
  exact h.2
end Go.Proofs.YtjimcjhgjfhbiaaGreat
/- Contract of apiarylaw10.Box: a box of the world some cells wide. -/
namespace Go.Proofs.YtjimcjhgjfhbiaaGreat
open Go.RowKit Go.Lib Wd Cv

end Go.Proofs.YtjimcjhgjfhbiaaGreat
/- The one cell that touches its own middle's box; apiarylaw10.awake. -/
namespace Go.Proofs.YtjimcjhgjfhbiaaGreat
open Go.RowKit Go.Lib Wd

end Go.Proofs.YtjimcjhgjfhbiaaGreat
/- Contracts of apiaryref1: Cell, IsWord. -/
namespace Go.Proofs.YtjimcjhgjfhbiaaGreat
open Go.RowKit Go.Lib Wd

set_option maxRecDepth 100000 in
set_option maxHeartbeats 8000000 in
theorem rcell_any (w0 : Nat) (hw : w0 < 18446744073709551616) (w : World) :
    Calls Tryz.prog 27 #[.int .u64 w0] w fun e w' => e = .returned (.tuple #[vC (cvR w0) (cvZ w0), .int .i64 (cvE w0)]) ∧ Below w.heap.size w w' := by
  obtain ⟨v1, v2, v3⟩ := head_val w0 hw
  obtain ⟨R, hR⟩ : ∃ R, rW w0 = R := ⟨_, rfl⟩
  obtain ⟨A, hA⟩ : ∃ A, w0 / 70368744177664 % 1024 = A := ⟨_, rfl⟩
  obtain ⟨B, hB⟩ : ∃ A, w0 / 68719476736 % 1024 = A := ⟨_, rfl⟩
  have hA1 : A < 1024 := by omega
  have hB1 : B < 1024 := by omega
  have HBW : Hid (bW w0 = ((A : Int) - 512, (B : Int) - 512)) := by show _ = _; unfold bW; rw [hA, hB]
  have HIS : Hid (isW w0 = (decide (w0 / 1152921504606846976 = 1) && decide (R ≤ 12) && okD (dgW w0) R 12)) := by show _ = _; rw [← hR]; rfl
  have hr16 : R < 16 := by rw [← hR]; exact Nat.mod_lt _ (by decide)
  have HYES : Hid (isW w0 = true → cvR w0 = (R : Int) ∧ cvZ w0 = dn (dgW w0) ((A : Int) - 512, (B : Int) - 512) R ∧ cvE w0 = 0) := fun h => by
    unfold cvR cvZ cvE zW
    simp only [h, if_pos]
    rw [hR, HBW.out]
    exact ⟨rfl, rfl, trivial⟩
  have HNO : Hid (isW w0 = false → cvR w0 = 0 ∧ cvZ w0 = (0, 0) ∧ cvE w0 = 5) := fun h => by
    unfold cvR cvZ cvE
    simp only [h, Bool.false_eq_true, if_false]
    exact ⟨trivial, trivial, trivial⟩
  rw [hR] at v1
  rw [hA] at v2
  rw [hB] at v3
  clear hR hA hB
  have hbad : isW w0 = false → Hid (∀ w', Below w.heap.size w w' → ((Ending.returned (.tuple #[.agg #[.int .i64 0, .int .i64 0, .int .i64 0], .int .i64 5]) : Ending) = .returned (.tuple #[vC (cvR w0) (cvZ w0), .int .i64 (cvE w0)]) ∧ Below w.heap.size w w')) := fun h w' hb => by
    obtain ⟨e1, e2, e3⟩ := HNO.out h
    exact ⟨by rw [e1, e2, e3], hb⟩
  have hdig0 : ∀ k : Nat, k < 12 → bits .and .u64 ((w0 : Int) / 2 ^ (36 - 3 * (k + 1))) 7 = ((dgW w0 (k + 1) : Nat) : Int) := fun k hk => by
    have e : ((w0 : Int) / 2 ^ (36 - 3 * (k + 1))) = ((w0 / 8 ^ (12 - (k + 1)) : Nat) : Int) := by
      rw [show 36 - 3 * (k + 1) = 3 * (12 - (k + 1)) by omega, show (8 : Nat) ^ (12 - (k + 1)) = 2 ^ (3 * (12 - (k + 1))) by rw [Nat.pow_mul]]
      simp
    have := Nat.div_le_self w0 (8 ^ (12 - (k + 1)))
    rw [e, show (7 : Int) = ((7 : Nat) : Int) by rfl, bits_and_u64_nat _ _ (by omega) (by decide), nat_mask3]
    rfl
  have HDO := Lib.hid hdig0
  clear hdig0
  by_cases h0 : w0 / 1152921504606846976 = 1
  · have q1 : ((w0 : Int) / 1152921504606846976 != 1) = false := by simp; omega
    by_cases h12 : R ≤ 12
    · have q2 : decide (12 < (R : Int)) = false := decide_eq_false (by omega)
      go_enter Tryz.func27, Tryz.ntmps27
      go_wp2
      have T0 : Hid (Tri ((w.alloc (.cells #[.int .i64 0, .int .i64 0, .int .i64 0] 72)).alloc (.cells #[.int .i64 ((A : Int) - 512), .int .i64 ((B : Int) - 512)] 70)) w.heap.size 0 (0, 0)) := by
        show _ = _
        rw [Below.heap_alloc _ _ _ (by simp)]
        exact heap_new _ _ _ rfl
      have C0 : Hid (Two2 ((w.alloc (.cells #[.int .i64 0, .int .i64 0, .int .i64 0] 72)).alloc (.cells #[.int .i64 ((A : Int) - 512), .int .i64 ((B : Int) - 512)] 70)) (w.heap.size + 1) (.int .i64 ((A : Int) - 512)) (.int .i64 ((B : Int) - 512))) := Two2.of_row (t := 70) (heap_new _ _ _ (by simp))
      have HB0 : Hid (Below w.heap.size w ((w.alloc (.cells #[.int .i64 0, .int .i64 0, .int .i64 0] 72)).alloc (.cells #[.int .i64 ((A : Int) - 512), .int .i64 ((B : Int) - 512)] 70))) := ((Below.refl _ _).alloc (Nat.le_refl _) _).alloc (by simp) _
      have k2 : ((w.alloc (.cells #[.int .i64 0, .int .i64 0, .int .i64 0] 72)).alloc (.cells #[.int .i64 ((A : Int) - 512), .int .i64 ((B : Int) - 512)] 70)).heap.size = w.heap.size + 2 := by simp
      generalize (w.alloc (.cells #[.int .i64 0, .int .i64 0, .int .i64 0] 72)).alloc (.cells #[.int .i64 ((A : Int) - 512), .int .i64 ((B : Int) - 512)] 70) = w2 at *
      have HBB : Hid (baseB ((A : Int) - 512, (B : Int) - 512) = true) := by show _ = _; rw [baseB_iff]; simp only; omega
      have HOK : Hid (isW w0 = okD (dgW w0) R 12) := by show _ = _; rw [HIS.out, decide_eq_true h0, decide_eq_true h12]; rfl
      have HD8 := Lib.hid (dgW_lt w0)
      have C0 : Hid (Two2 w2 (w.heap.size + 1) (.int .i64 (((A : Int) - 512, (B : Int) - 512) : E2).1) (.int .i64 (((A : Int) - 512, (B : Int) - 512) : E2).2)) := C0.out
      generalize (((A : Int) - 512, (B : Int) - 512) : E2) = b at *
      clear v1 v2 v3 hA1 hB1 HBW HIS q1 q2 h0
      obtain ⟨D, hD⟩ : ∃ D, dgW w0 = D := ⟨_, rfl⟩
      rw [hD] at HYES HOK HD8
      simp only [hD] at HDO
      clear hD
      go_loopw [6] (fun i wr => ∃ k : Nat, k ≤ 12 ∧ i = .int .i64 (k + 1 : Nat) ∧ okD D R k = true ∧ Hid (Two2 wr (w.heap.size + 1) (.int .i64 (dn D b (min k R)).1) (.int .i64 (dn D b (min k R)).2) ∧ Turn (fun q => q = w.heap.size + 1) w2 wr)) (fun i _ => 13 - (intOf i).toNat)
      case atStart => exact ⟨0, by omega, rfl, rfl, by rw [Nat.zero_min]; exact C0.out, Turn.refl _ _⟩
      case round =>
        obtain ⟨k, hk, rfl, hok, HI⟩ := hrel
        have hTri := HI.out.1
        have hturn := HI.out.2
        have hsz := hturn.2.2.2.1
        have HT := Lib.hid (T0.out.turn hturn (by omega))
        have HBR : Hid (Below w.heap.size w wr) := HB0.out.trans (hturn.below (by omega) fun q hq e => by omega)
        have HTU := Lib.hid hturn
        have HTR := Lib.hid hTri
        clear hTri hturn HI
        by_cases hk12 : k < 12
        · have hd8 := HD8.out (k + 1)
          have hdv := HDO.out k hk12
          have HST : Hid (okD D R (k + 1) = (okD D R k && ((D (k + 1) == 7) == decide (R < k + 1)))) := rfl
          have HDN : Hid (dn D b (k + 1) = downE (dn D b k) (D (k + 1))) := rfl
          have q1 : decide (((k + 1 : Nat) : Int) ≤ 12) = true := decide_eq_true (by omega)
          have q1' : decide ((k : Int) + 1 ≤ 12) = true := decide_eq_true (by omega)
          have qs : decide (36 - 3 * ((k : Int) + 1) < 0) = false := decide_eq_false (by omega)
          obtain ⟨d, hd⟩ : ∃ d, D (k + 1) = d := ⟨_, rfl⟩
          rw [hd] at hd8 hdv HST HDN
          clear hd
          by_cases hd7 : d = 7
          · by_cases hkr : R < k + 1
            · have q2 : decide ((R : Int) < ((k + 1 : Nat) : Int)) = true := decide_eq_true (by omega)
              have q2' : decide ((R : Int) < (k : Int) + 1) = true := decide_eq_true (by omega)
              have HN : okD D R (k + 1) = true := by rw [HST.out, hok, hd7, decide_eq_true hkr]; rfl
              have HM : Hid (Two2 wr (w.heap.size + 1) (.int .i64 (dn D b (min (k + 1) R)).1) (.int .i64 (dn D b (min (k + 1) R)).2)) := by
                have := HTR.out
                rw [show min k R = min (k + 1) R by omega] at this
                exact this
              subst hd7
              go_wp2
              go_roundw
              case rel => exact ⟨k + 1, by omega, by go_num, HN, HM.out, HTU.out⟩
              case measure => simp [intOf]; omega
            · have q2 : decide ((R : Int) < ((k + 1 : Nat) : Int)) = false := decide_eq_false (by omega)
              have q2' : decide ((R : Int) < (k : Int) + 1) = false := decide_eq_false (by omega)
              have HF := hbad (by rw [HOK.out]; exact okD_stop (k := k + 1) (by rw [HST.out, hok, hd7, decide_eq_false hkr]; rfl) (by omega))
              subst hd7
              obtain ⟨t0, t1, t2, t3, t4, t5, t6⟩ := HT.out.cells
              go_wp2
              exact bodyPost_ret (v := .tuple #[.agg #[.int .i64 0, .int .i64 0, .int .i64 0], .int .i64 5]) (by simp [results, Tryz.results27, go_sem, *]) rfl (HF.out _ (((HBR.out.setCell (p := ⟨w.heap.size, 0, none⟩) (Nat.le_refl _) _).setCell (p := ⟨w.heap.size, 1, none⟩) (Nat.le_refl _) _).setCell (p := ⟨w.heap.size, 2, none⟩) (Nat.le_refl _) _))
          · have q3 : ((d : Int) == 7) = false := by simp; omega
            have q4 : ((d : Int) != 7) = true := by simp; omega
            by_cases hkr : R < k + 1
            · have q2 : decide ((R : Int) < ((k + 1 : Nat) : Int)) = true := decide_eq_true (by omega)
              have q2' : decide ((R : Int) < (k : Int) + 1) = true := decide_eq_true (by omega)
              have HF := hbad (by rw [HOK.out]; exact okD_stop (k := k + 1) (by rw [HST.out, hok, decide_eq_true hkr, beq_eq_false_iff_ne.2 hd7]; rfl) (by omega))
              obtain ⟨t0, t1, t2, t3, t4, t5, t6⟩ := HT.out.cells
              go_wp2
              exact bodyPost_ret (v := .tuple #[.agg #[.int .i64 0, .int .i64 0, .int .i64 0], .int .i64 5]) (by simp [results, Tryz.results27, go_sem, *]) rfl (HF.out _ (((HBR.out.setCell (p := ⟨w.heap.size, 0, none⟩) (Nat.le_refl _) _).setCell (p := ⟨w.heap.size, 1, none⟩) (Nat.le_refl _) _).setCell (p := ⟨w.heap.size, 2, none⟩) (Nat.le_refl _) _))
            · have q2 : decide ((R : Int) < ((k + 1 : Nat) : Int)) = false := decide_eq_false (by omega)
              have q2' : decide ((R : Int) < (k : Int) + 1) = false := decide_eq_false (by omega)
              have HN : okD D R (k + 1) = true := by rw [HST.out, hok, decide_eq_false hkr, beq_eq_false_iff_ne.2 hd7]; rfl
              have hmk : min k R = k := by omega
              have hmk2 : min (k + 1) R = k + 1 := by omega
              rw [hmk] at HTR
              have hdig : ∀ j, 0 < j → j ≤ k → D j < 7 := fun j h1 h2 => by
                have h3 := (okD_iff D R k).1 hok j h1 h2
                have := HD8.out j
                omega
              have hhx := (dn_hex HBB.out hdig (Nat.le_refl k)).mono (hexH_le hk)
              have HMU := Lib.hid (rmul_in (dn D b k) (2, 1) (hhx.sm.mono (by decide)) (by unfold Sm; simp) (by unfold Hex at hhx; unfold Sm mulE; simp only; omega))
              have hmb : Sm 8589934592 (mulE (dn D b k) (2, 1)) := by unfold Hex at hhx; unfold Sm mulE; simp only; omega
              obtain ⟨x, hx⟩ : ∃ x, dn D b k = x := ⟨_, rfl⟩
              rw [hx] at HMU HTR HDN hmb
              have HDE : Hid (dn D b (k + 1) = addE (mulE x (2, 1)) (leftE d)) := HDN.out
              generalize mulE x (2, 1) = m at *
              simp only [vE] at HMU
              obtain ⟨⟨c0, c1⟩, c2, c3⟩ := HTR.out
              unfold Sm at hmb
              obtain ⟨hm1, hm2, hm3, hm4⟩ := hmb
              clear hhx hdig hx hmk HDN HST hbad HNO HBB HD8
              go_wp2_with fail
              refine (HMU.out _).mono ?_
              rintro e w5 ⟨rfl, hb5⟩
              have hz5 := hb5.size
              have h5 := HTR.out.later (by omega) hb5
              have HP := Lib.hid (h5.put (.int .i64 m.1) (.int .i64 m.2))
              have HTU2 : Hid (Turn (fun q => q = w.heap.size + 1) w2 ((w5.setCell ⟨w.heap.size + 1, 0, none⟩ (.int .i64 m.1)).setCell ⟨w.heap.size + 1, 1, none⟩ (.int .i64 m.2))) := (HTU.out.trans (Turn.of_below hb5) fun _ _ h => h).trans HP.out.2 fun _ _ h => h
              have hz6 := HP.out.2.2.2.2.1
              obtain ⟨⟨e0, e1⟩, e2, e3⟩ := h5
              clear hb5 c0 c1 c2 c3 HTR HT HTU HMU HBR
              go_upto_region 15 with (fail)
              generalize ((w5.setCell ⟨w.heap.size + 1, 0, none⟩ (.int .i64 m.1)).setCell ⟨w.heap.size + 1, 1, none⟩ (.int .i64 m.2)) = w6 at *
              obtain ⟨⟨g0, g1⟩, g2, g3⟩ := HP.out.1
              clear e0 e1 e2 e3
              cases d with
              | zero =>
                have HDZ : Hid (dn D b (k + 1) = m) := by show _ = _; rw [HDE.out]; show (m.1 + 0, m.2 + 0) = m; simp
                have HFI : Hid (Two2 w6 (w.heap.size + 1) (.int .i64 (dn D b (min (k + 1) R)).1) (.int .i64 (dn D b (min (k + 1) R)).2) ∧ Turn (fun q => q = w.heap.size + 1) w2 w6) := ⟨by rw [hmk2, HDZ.out]; exact HP.out.1, HTU2.out⟩
                go_wp2
                go_roundw
                case rel => exact ⟨k + 1, by omega, by go_num, HN, HFI.out⟩
                case measure => simp [intOf]; omega
              | succ d =>
                have HDZ : Hid (dn D b (k + 1) = addE m (leftE (d + 1))) := HDE.out
                have HUN := Lib.hid (runit_in d (by omega))
                have hul := left_sm (d + 1)
                have hle : leftE (d + 1) = unitE d := rfl
                rw [hle] at HDZ hul
                simp only [vE] at HUN
                generalize unitE d = u at *
                unfold Sm at hul
                obtain ⟨hu1, hu2, hu3, hu4⟩ := hul
                have hws : w.heap.size + 1 < w6.heap.size := by omega
                clear hle
                go_wp2_with fail
                refine (HUN.out _).mono ?_
                rintro e w7 ⟨rfl, hb7⟩
                have hz7 := hb7.size
                have hal : Below w7.heap.size w7 (w7.alloc (.cells #[.int .i64 u.1, .int .i64 u.2] 70)) := (Below.refl _ _).alloc (Nat.le_refl _) _
                have k7 := World.size_alloc w7 (.cells #[.int .i64 u.1, .int .i64 u.2] 70)
                have h8 := (HP.out.1.later hws hb7).later (by omega) hal
                have hU8 : Two (w7.alloc (.cells #[.int .i64 u.1, .int .i64 u.2] 70)) w7.heap.size (.int .i64 u.1) (.int .i64 u.2) := Two.of_row (t := 70) (f := _) (heap_new _ _ _ rfl)
                have HT8 : Hid (Turn (fun q => q = w.heap.size + 1) w2 (w7.alloc (.cells #[.int .i64 u.1, .int .i64 u.2] 70))) := (HTU2.out.trans (Turn.of_below hb7) fun _ _ h => h).trans (Turn.of_below hal) fun _ _ h => h
                clear hal hb7 g0 g1 g2 g3
                go_upto_region 17 with (fail)
                generalize w7.alloc (.cells #[.int .i64 u.1, .int .i64 u.2] 70) = w8 at *
                have hp := h8.put (.int .i64 (m.1 + u.1)) (.int .i64 (m.2 + u.2))
                have HFI : Hid (Two2 ((w8.setCell ⟨w.heap.size + 1, 0, none⟩ (.int .i64 (m.1 + u.1))).setCell ⟨w.heap.size + 1, 1, none⟩ (.int .i64 (m.2 + u.2))) (w.heap.size + 1) (.int .i64 (dn D b (min (k + 1) R)).1) (.int .i64 (dn D b (min (k + 1) R)).2) ∧ Turn (fun q => q = w.heap.size + 1) w2 ((w8.setCell ⟨w.heap.size + 1, 0, none⟩ (.int .i64 (m.1 + u.1))).setCell ⟨w.heap.size + 1, 1, none⟩ (.int .i64 (m.2 + u.2)))) := ⟨by rw [hmk2, HDZ.out]; exact hp.1, HT8.out.trans hp.2 fun _ _ h => h⟩
                obtain ⟨⟨g0, g1⟩, g2, g3⟩ := h8
                obtain ⟨i0, i1⟩ := hU8
                have hl7 : w7.heap.size < w8.heap.size := by omega
                have hl8 : w.heap.size + 1 < w8.heap.size := by omega
                clear hp k7
                go_wp2
                go_roundw
                case rel => exact ⟨k + 1, by omega, by go_num, HN, HFI.out⟩
                case measure => simp [intOf]; omega
        · obtain rfl : k = 12 := by omega
          rw [Nat.min_eq_right h12] at HTR
          obtain ⟨y1, y2, y3⟩ := HYES.out (by rw [HOK.out]; exact hok)
          have HY : Hid (vC (cvR w0) (cvZ w0) = vC R (dn D b R) ∧ cvE w0 = 0) := ⟨by rw [y1, y2], y3⟩
          obtain ⟨⟨c0, c1⟩, c2, c3⟩ := HTR.out
          obtain ⟨t0, t1, t2, t3, t4, t5, t6⟩ := HT.out.cells
          generalize dn D b R = x at *
          clear y1 y2 y3 HTR HT HYES
          go_wp2
          exact bodyPost_ret (v := .tuple #[.agg #[.int .i64 R, .int .i64 x.1, .int .i64 x.2], .int .i64 0]) (by simp [results, Tryz.results27, go_sem, *]) rfl ⟨by rw [HY.out.1, HY.out.2], (((HBR.out.setCell (p := ⟨w.heap.size, 0, none⟩) (Nat.le_refl _) _).setCell (p := ⟨w.heap.size, 1, none⟩) (Nat.le_refl _) _).setCell (p := ⟨w.heap.size, 2, none⟩) (Nat.le_refl _) _)⟩
    · have HF := hbad (by rw [HIS.out, decide_eq_false h12]; simp)
      have q2 : decide (12 < (R : Int)) = true := decide_eq_true (by omega)
      clear h0
      go_enter Tryz.func27, Tryz.ntmps27
      go_wp2
      exact bodyPost_ret (v := .tuple #[.agg #[.int .i64 0, .int .i64 0, .int .i64 0], .int .i64 5]) (by simp [results, Tryz.results27, go_sem]) rfl (HF.out _ ((Below.refl _ _).alloc (Nat.le_refl _) _))
  · have HF := hbad (by rw [HIS.out, decide_eq_false h0]; rfl)
    have q1 : ((w0 : Int) / 1152921504606846976 != 1) = true := by simp; omega
    clear h0
    go_enter Tryz.func27, Tryz.ntmps27
    go_wp2
    exact bodyPost_ret (v := .tuple #[.agg #[.int .i64 0, .int .i64 0, .int .i64 0], .int .i64 5]) (by simp [results, Tryz.results27, go_sem]) rfl (HF.out _ ((Below.refl _ _).alloc (Nat.le_refl _) _))
end Go.Proofs.YtjimcjhgjfhbiaaGreat
/- Lists of cells in memory; the contract of apiaryref1.Children. -/
namespace Go.Proofs.YtjimcjhgjfhbiaaGreat
open Go.RowKit Go.Lib Wd

end Go.Proofs.YtjimcjhgjfhbiaaGreat
/- Words of cells that may be; children of cells that may be (for seats without package near). Plain, but for the names. -/
namespace Go.Proofs.YtjimcjhgjfhbiaaGreat
open Go.RowKit Go.Lib Wd

end Go.Proofs.YtjimcjhgjfhbiaaGreat
/- Contracts of apiarylaw4.Some and apiarylaw5.Word at any numbers. -/
namespace Go.Proofs.YtjimcjhgjfhbiaaGreat
open Go.RowKit Go.Lib Wd

end Go.Proofs.YtjimcjhgjfhbiaaGreat
/- What the walks of the laws share: cells of a block of two or three. -/
namespace Go.Proofs.YtjimcjhgjfhbiaaGreat
open Go.RowKit Go.Lib Wd Cv
/-- A small number of a size, as the laws take it. -/
theorem res_of (r : Int) : ∃ (s : Int) (R : Nat), r.tmod 13 = s ∧ -13 < s ∧ s < 13 ∧ (s + 13).tmod 13 = (R : Int) ∧ R ≤ 12 ∧ r % 13 = (R : Int) := by
  obtain ⟨⟨h1, h2⟩, h3⟩ := rem13 r
  exact ⟨_, (r % 13).toNat, rfl, h1, h2, by rw [h3]; omega, by omega, by omega⟩
end Go.Proofs.YtjimcjhgjfhbiaaGreat
/- Contracts: cell.Of of what is no point of the world; view.framed, touches, Touches; (*cache.Cache).Clear$1. -/
namespace Go.Proofs.YtjimcjhgjfhbiaaGreat
open Go.RowKit Go.Lib Wd Cv

theorem put_three {w : World} {g : Nat} {a b c : Value} {t : TypeId} (h : w.heap[g]? = some (.cells #[a, b, c] t (0, 0))) (d e f : Value) : (((w.setCell ⟨g, 0, none⟩ d).setCell ⟨g, 1, none⟩ e).setCell ⟨g, 2, none⟩ f).heap[g]? = some (.cells #[d, e, f] t (0, 0)) := by
  rw [Sort.setCell_eq, Sort.setCell_eq, Sort.setCell_eq]
  simp [Sort.mapBlock, Array.getElem?_modify, h, Sort.onCells]
theorem froz3 {w : World} {g : Nat} {a b c : Value} {t : TypeId} (h : w.heap[g]? = some (.cells #[a, b, c] t (0, 0))) : ∀ j, w.frozen? ⟨g, j, none⟩ = false := fun j => by simp [World.frozen?, h]
set_option maxHeartbeats 1000000 in
theorem cof_out (x y r : Int) (h : worldB x y = false) (w : World) : Calls Tryz.prog 33 #[.int .i64 x, .int .i64 y, .int .i64 r] w fun e w' => e = .returned (.tuple #[vC 0 (0, 0), .int .i64 4]) ∧ Below w.heap.size w w' := by
  have HP := Lib.hid (pok_any x y)
  rw [h] at HP
  clear h
  go_enter Tryz.func33, Tryz.ntmps33
  go_wp2_with fail
  refine (HP.out _).mono ?_
  rintro e w1 ⟨rfl, rfl⟩
  go_wp2
  exact bodyPost_ret (v := .tuple #[.agg #[.int .i64 0, .int .i64 0, .int .i64 0], .int .i64 4]) (by simp [results, Tryz.results33, go_sem]) rfl ⟨rfl, (Below.refl _ _).alloc (Nat.le_refl _) _⟩
set_option maxRecDepth 100000 in
set_option maxHeartbeats 2000000 in
theorem ftouch_any (lo hi : E2) (r : Int) (z : E2) (w : World) : Calls Tryz.prog 64 #[.agg #[.int .i64 lo.1, .int .i64 lo.2, .int .i64 hi.1, .int .i64 hi.2], vC r z] w fun e w' => e = .returned (.bool (ctB r z lo hi)) ∧ Below w.heap.size w w' := by
  have HC := Lib.hid (fun w => ctouch_any r z lo hi w)
  generalize ctB r z lo hi = b at *
  obtain ⟨l1, l2⟩ := lo
  obtain ⟨h1, h2⟩ := hi
  obtain ⟨z1, z2⟩ := z
  simp only [vC, vE] at *
  obtain ⟨w1, hw1⟩ : ∃ W, (w.alloc (.cells #[.int .i64 l1, .int .i64 l2, .int .i64 h1, .int .i64 h2] 113)) = W := ⟨_, rfl⟩
  obtain ⟨w2, hw2⟩ : ∃ W, w1.alloc (.cells #[.int .i64 r, .int .i64 z1, .int .i64 z2] 72) = W := ⟨_, rfl⟩
  have y0 : w1.heap[w.heap.size]? = some (.cells #[.int .i64 l1, .int .i64 l2, .int .i64 h1, .int .i64 h2] 113 (0, 0)) := by rw [← hw1]; exact heap_new _ _ _ rfl
  have y1 : w2.heap[w1.heap.size]? = some (.cells #[.int .i64 r, .int .i64 z1, .int .i64 z2] 72 (0, 0)) := by rw [← hw2]; exact heap_new _ _ _ rfl
  have hb1 : Below w.heap.size w w1 := by rw [← hw1]; exact (Below.refl _ _).alloc (Nat.le_refl _) _
  have hb2 : Below w1.heap.size w1 w2 := by rw [← hw2]; exact (Below.refl _ _).alloc (Nat.le_refl _) _
  have g0 := (Array.getElem?_eq_some_iff.1 y0).1
  have y2 := (hb2.block _ g0).trans y0
  have g1 := (Array.getElem?_eq_some_iff.1 y1).1
  have g2 := (Array.getElem?_eq_some_iff.1 y2).1
  have x0 : w2.cell? ⟨w.heap.size, 0, none⟩ = some (.int .i64 l1) := cell_of_row _ _ 0 _ _ _ y2
  have x1 : w2.cell? ⟨w.heap.size, 1, none⟩ = some (.int .i64 l2) := cell_of_row _ _ 1 _ _ _ y2
  have x2 : w2.cell? ⟨w.heap.size, 2, none⟩ = some (.int .i64 h1) := cell_of_row _ _ 2 _ _ _ y2
  have x3 : w2.cell? ⟨w.heap.size, 3, none⟩ = some (.int .i64 h2) := cell_of_row _ _ 3 _ _ _ y2
  have c0 : w2.cell? ⟨w1.heap.size, 0, none⟩ = some (.int .i64 r) := cell_of_row _ _ 0 _ _ _ y1
  have c1 : w2.cell? ⟨w1.heap.size, 1, none⟩ = some (.int .i64 z1) := cell_of_row _ _ 1 _ _ _ y1
  have c2 : w2.cell? ⟨w1.heap.size, 2, none⟩ = some (.int .i64 z2) := cell_of_row _ _ 2 _ _ _ y1
  have HW1 := Lib.hid hw1
  have HW2 := Lib.hid hw2
  have HB2 := Lib.hid (hb1.trans (hb2.mono hb1.size))
  clear hw1 hw2 y0 y1 y2 hb1 hb2 g0
  go_enter Tryz.func64, Tryz.ntmps64
  go_upto_region 1 with (first | rw [HW1.out] | rw [HW2.out])
  first | rw [HW1.out, HW2.out] | rw [HW2.out] | skip
  go_wp2_with fail
  refine (HC.out _).mono ?_
  rintro e w3 ⟨rfl, hb3⟩
  have HB3 := Lib.hid (HB2.out.trans (hb3.mono HB2.out.size))
  clear hb3
  go_wp2
  go_ret
  exact ⟨rfl, HB3.out⟩
/-- Whether a tile and a cell touch. -/
def vtB (t : TL) (r : Int) (z : E2) : Bool := isT t && ctB r z (loT t) (hiT t)
set_option maxRecDepth 100000 in
set_option maxHeartbeats 2000000 in
theorem vtouch_any (t : TL) (r : Int) (z : E2) (w : World) : Calls Tryz.prog 34 #[tlV t, vC r z] w fun e w' => e = .returned (.bool (vtB t r z)) ∧ Below w.heap.size w w' := by
  have HIS := Lib.hid (fun w => vis_any t w)
  have HFR : Hid (isT t = true → ∀ w, Calls Tryz.prog 63 #[tlV t] w fun e w' => e = .returned (.agg #[.int .i64 (loT t).1, .int .i64 (loT t).2, .int .i64 (hiT t).1, .int .i64 (hiT t).2]) ∧ Below w.heap.size w w') := fun h w => framed_in t h w
  have HFT := Lib.hid (fun w => ftouch_any (loT t) (hiT t) r z w)
  have HV : Hid (vtB t r z = (isT t && ctB r z (loT t) (hiT t))) := rfl
  have T := Lib.hid (show Value.agg #[.int .i64 t.1, .int .i64 t.2.1, .int .i64 t.2.2.1, .int .i64 t.2.2.2] = tlV t from rfl)
  rw [← T.out] at HIS HFR ⊢
  generalize vtB t r z = v at *
  generalize ctB r z (loT t) (hiT t) = b at *
  generalize (loT t).1 = l1 at *
  generalize (loT t).2 = l2 at *
  generalize (hiT t).1 = h1 at *
  generalize (hiT t).2 = h2 at *
  obtain ⟨z1, z2⟩ := z
  simp only [vC] at *
  obtain ⟨⟨t0, t1, t2, t3⟩, hb1, hs⟩ := boxed_tile w t
  obtain ⟨w1, hw1⟩ : ∃ W, (w.alloc (.cells #[.int .i64 t.1, .int .i64 t.2.1, .int .i64 t.2.2.1, .int .i64 t.2.2.2] 26)) = W := ⟨_, rfl⟩
  rw [hw1] at t0 t1 t2 t3 hb1 hs
  obtain ⟨w2, hw2⟩ : ∃ W, w1.alloc (.cells #[.int .i64 r, .int .i64 z1, .int .i64 z2] 72) = W := ⟨_, rfl⟩
  have y1 : w2.heap[w1.heap.size]? = some (.cells #[.int .i64 r, .int .i64 z1, .int .i64 z2] 72 (0, 0)) := by rw [← hw2]; exact heap_new _ _ _ rfl
  have hb2 : Below w1.heap.size w1 w2 := by rw [← hw2]; exact (Below.refl _ _).alloc (Nat.le_refl _) _
  have HT1 : Hid (∀ W, Below w2.heap.size w2 W → TileAt W w.heap.size t) := fun W hW => TileAt.below (TileAt.below ⟨t0, t1, t2, t3⟩ hb2) hW
  have HC1 : Hid (∀ W, Below w2.heap.size w2 W → W.heap[w1.heap.size]? = some (.cells #[.int .i64 r, .int .i64 z1, .int .i64 z2] 72 (0, 0))) := fun W hW => (hW.block _ (Array.getElem?_eq_some_iff.1 y1).1).trans y1
  have hs2 : w.heap.size < w2.heap.size := Nat.lt_of_lt_of_le hs hb2.size
  have hg2 : w1.heap.size < w2.heap.size := (Array.getElem?_eq_some_iff.1 y1).1
  have HW1 := Lib.hid hw1
  have HW2 := Lib.hid hw2
  have HB2 := Lib.hid (hb1.trans (hb2.mono hb1.size))
  clear hw1 hw2 y1 hb1 hb2 t0 t1 t2 t3 hs
  go_enter Tryz.func34, Tryz.ntmps34
  go_upto_region 1 with (first | rw [HW1.out] | rw [HW2.out])
  first | rw [HW1.out, HW2.out] | rw [HW2.out] | skip
  generalize w1.heap.size = g at *
  cases hi : isT t with
  | true =>
    rw [hi] at HIS HV
    have HFR2 := Lib.hid (HFR.out hi)
    have HVV : Hid (v = b) := HV.out
    clear hi HFR HV
    refine wp_region_inv (fun w w' => Below w.heap.size w w') (fun qi_ qv_ _ => qv_ = ([.agg #[.int .i64 t.1, .int .i64 t.2.1, .int .i64 t.2.2.1, .int .i64 t.2.2.2], .bool true, .bool true, .agg #[.int .i64 t.1, .int .i64 t.2.1, .int .i64 t.2.2.1, .int .i64 t.2.2.2], .agg #[.int .i64 l1, .int .i64 l2, .int .i64 h1, .int .i64 h2], .agg #[.int .i64 r, .int .i64 z1, .int .i64 z2], .bool b, .bool b, .bool b] : List Value).getD qi_ undef) (by kernel_rfl) (by kernel_rfl) (fun _ => Below.refl _ _) (fun _ _ _ h1 h2 => below_later h1 h1.size h2) (fun _ _ _ _ _ _ h => h) ?_
    refine inv_cons (fun wx hg hd => ?_) (fun v0 => ?_)
    · have hx := ((Below.refl w2.heap.size w2).drew).trans hg
      clear hd hg
      obtain ⟨k0, k1, k2, k3⟩ := HT1.out _ hx
      have hsx : w.heap.size < wx.heap.size := Nat.lt_of_lt_of_le hs2 hx.size
      go_wp2
      exact ⟨_, rfl, Below.refl _ _, rfl⟩
    (try simp only [List.nil_append, Act.put, List.setIfInBounds_toArray, List.set_cons_zero, List.set_cons_succ])
    refine inv_cons (fun wx hg hd => ?_) (fun v1 => ?_)
    · have hx := ((Below.refl w2.heap.size w2).drew).trans hg
      (try (have ee : v0 = (.agg #[.int .i64 t.1, .int .i64 t.2.1, .int .i64 t.2.2.1, .int .i64 t.2.2.2] : Value) := hd 0 (by simp) (by decide); subst ee))
      clear hd hg
      go_wp2_with fail
      refine (HIS.out _).mono ?_
      rintro e w' ⟨rfl, hb⟩
      go_wp2
      exact ⟨_, rfl, hb, rfl⟩
    (try simp only [List.cons_append, List.nil_append, Act.put, List.setIfInBounds_toArray, List.set_cons_zero, List.set_cons_succ])
    refine inv_cons (fun wx hg hd => ?_) (fun v2 => ?_)
    · have hx := ((Below.refl w2.heap.size w2).drew).trans hg
      (try (have ee : v1 = (.bool true : Value) := hd 1 (by simp) (by decide); subst ee))
      clear hd hg
      go_wp2
      exact ⟨_, rfl, Below.refl _ _, rfl⟩
    (try simp only [List.cons_append, List.nil_append, Act.put, List.setIfInBounds_toArray, List.set_cons_zero, List.set_cons_succ])
    refine inv_cons (fun wx hg hd => ?_) (fun v3 => ?_)
    · have hx := ((Below.refl w2.heap.size w2).drew).trans hg
      (try (have ee : v2 = (.bool true : Value) := hd 2 (by simp) (by decide); subst ee))
      clear hd hg
      obtain ⟨k0, k1, k2, k3⟩ := HT1.out _ hx
      have hsx : w.heap.size < wx.heap.size := Nat.lt_of_lt_of_le hs2 hx.size
      go_wp2
      exact ⟨_, rfl, Below.refl _ _, rfl⟩
    (try simp only [List.cons_append, List.nil_append, Act.put, List.setIfInBounds_toArray, List.set_cons_zero, List.set_cons_succ])
    refine inv_cons (fun wx hg hd => ?_) (fun v4 => ?_)
    · have hx := ((Below.refl w2.heap.size w2).drew).trans hg
      (try (have ee : v2 = (.bool true : Value) := hd 2 (by simp) (by decide); subst ee))
      (try (have ee : v3 = (.agg #[.int .i64 t.1, .int .i64 t.2.1, .int .i64 t.2.2.1, .int .i64 t.2.2.2] : Value) := hd 3 (by simp) (by decide); subst ee))
      clear hd hg
      go_wp2_with fail
      refine (HFR2.out _).mono ?_
      rintro e w' ⟨rfl, hb⟩
      go_wp2
      exact ⟨_, rfl, hb, rfl⟩
    (try simp only [List.cons_append, List.nil_append, Act.put, List.setIfInBounds_toArray, List.set_cons_zero, List.set_cons_succ])
    refine inv_cons (fun wx hg hd => ?_) (fun v5 => ?_)
    · have hx := ((Below.refl w2.heap.size w2).drew).trans hg
      (try (have ee : v2 = (.bool true : Value) := hd 2 (by simp) (by decide); subst ee))
      clear hd hg
      have y := HC1.out _ hx
      have k0 := cell_of_row _ _ 0 _ _ _ y
      have k1 := cell_of_row _ _ 1 _ _ _ y
      have k2 := cell_of_row _ _ 2 _ _ _ y
      have hsx : g < wx.heap.size := Nat.lt_of_lt_of_le hg2 hx.size
      go_wp2
      exact ⟨_, rfl, Below.refl _ _, rfl⟩
    (try simp only [List.cons_append, List.nil_append, Act.put, List.setIfInBounds_toArray, List.set_cons_zero, List.set_cons_succ])
    refine inv_cons (fun wx hg hd => ?_) (fun v6 => ?_)
    · have hx := ((Below.refl w2.heap.size w2).drew).trans hg
      (try (have ee : v2 = (.bool true : Value) := hd 2 (by simp) (by decide); subst ee))
      (try (have ee : v4 = (.agg #[.int .i64 l1, .int .i64 l2, .int .i64 h1, .int .i64 h2] : Value) := hd 4 (by simp) (by decide); subst ee))
      (try (have ee : v5 = (.agg #[.int .i64 r, .int .i64 z1, .int .i64 z2] : Value) := hd 5 (by simp) (by decide); subst ee))
      clear hd hg
      go_wp2_with fail
      refine (HFT.out _).mono ?_
      rintro e w' ⟨rfl, hb⟩
      go_wp2
      exact ⟨_, rfl, hb, rfl⟩
    (try simp only [List.cons_append, List.nil_append, Act.put, List.setIfInBounds_toArray, List.set_cons_zero, List.set_cons_succ])
    refine inv_cons (fun wx hg hd => ?_) (fun v7 => ?_)
    · have hx := ((Below.refl w2.heap.size w2).drew).trans hg
      (try (have ee : v2 = (.bool true : Value) := hd 2 (by simp) (by decide); subst ee))
      (try (have ee : v6 = (.bool b : Value) := hd 6 (by simp) (by decide); subst ee))
      clear hd hg
      go_wp2
      exact ⟨_, rfl, Below.refl _ _, rfl⟩
    (try simp only [List.cons_append, List.nil_append, Act.put, List.setIfInBounds_toArray, List.set_cons_zero, List.set_cons_succ])
    refine inv_cons (fun wx hg hd => ?_) (fun v8 => ?_)
    · have hx := ((Below.refl w2.heap.size w2).drew).trans hg
      (try (have ee : v7 = (.bool b : Value) := hd 7 (by simp) (by decide); subst ee))
      clear hd hg
      go_wp2
      exact ⟨_, rfl, Below.refl _ _, rfl⟩
    (try simp only [List.cons_append, List.nil_append, Act.put, List.setIfInBounds_toArray, List.set_cons_zero, List.set_cons_succ])
    refine inv_done (fun wx hg hd => ?_)
    have hx := ((Below.refl w2.heap.size w2).drew).trans hg
    (have ee : v0 = (.agg #[.int .i64 t.1, .int .i64 t.2.1, .int .i64 t.2.2.1, .int .i64 t.2.2.2] : Value) := hd 0 (by simp); subst ee)
    (have ee : v1 = (.bool true : Value) := hd 1 (by simp); subst ee)
    (have ee : v2 = (.bool true : Value) := hd 2 (by simp); subst ee)
    (have ee : v3 = (.agg #[.int .i64 t.1, .int .i64 t.2.1, .int .i64 t.2.2.1, .int .i64 t.2.2.2] : Value) := hd 3 (by simp); subst ee)
    (have ee : v4 = (.agg #[.int .i64 l1, .int .i64 l2, .int .i64 h1, .int .i64 h2] : Value) := hd 4 (by simp); subst ee)
    (have ee : v5 = (.agg #[.int .i64 r, .int .i64 z1, .int .i64 z2] : Value) := hd 5 (by simp); subst ee)
    (have ee : v6 = (.bool b : Value) := hd 6 (by simp); subst ee)
    (have ee : v7 = (.bool b : Value) := hd 7 (by simp); subst ee)
    (have ee : v8 = (.bool b : Value) := hd 8 (by simp); subst ee)
    clear hd hg
    (try go_simp)
    go_wp2
    go_ret
    exact ⟨by rw [HVV.out]; rfl, HB2.out.trans (hx.mono HB2.out.size)⟩
  | false =>
    rw [hi] at HIS HV
    have HVV : Hid (v = false) := HV.out
    clear hi HFR HV
    refine wp_region_inv (fun w w' => Below w.heap.size w w') (fun qi_ qv_ _ => qv_ = ([.agg #[.int .i64 t.1, .int .i64 t.2.1, .int .i64 t.2.2.1, .int .i64 t.2.2.2], .bool false, .bool false, undef, undef, undef, undef, .bool false, .bool false] : List Value).getD qi_ undef) (by kernel_rfl) (by kernel_rfl) (fun _ => Below.refl _ _) (fun _ _ _ h1 h2 => below_later h1 h1.size h2) (fun _ _ _ _ _ _ h => h) ?_
    refine inv_cons (fun wx hg hd => ?_) (fun v0 => ?_)
    · have hx := ((Below.refl w2.heap.size w2).drew).trans hg
      clear hd hg
      obtain ⟨k0, k1, k2, k3⟩ := HT1.out _ hx
      have hsx : w.heap.size < wx.heap.size := Nat.lt_of_lt_of_le hs2 hx.size
      go_wp2
      exact ⟨_, rfl, Below.refl _ _, rfl⟩
    (try simp only [List.nil_append, Act.put, List.setIfInBounds_toArray, List.set_cons_zero, List.set_cons_succ])
    refine inv_cons (fun wx hg hd => ?_) (fun v1 => ?_)
    · have hx := ((Below.refl w2.heap.size w2).drew).trans hg
      (try (have ee : v0 = (.agg #[.int .i64 t.1, .int .i64 t.2.1, .int .i64 t.2.2.1, .int .i64 t.2.2.2] : Value) := hd 0 (by simp) (by decide); subst ee))
      clear hd hg
      go_wp2_with fail
      refine (HIS.out _).mono ?_
      rintro e w' ⟨rfl, hb⟩
      go_wp2
      exact ⟨_, rfl, hb, rfl⟩
    (try simp only [List.cons_append, List.nil_append, Act.put, List.setIfInBounds_toArray, List.set_cons_zero, List.set_cons_succ])
    refine inv_cons (fun wx hg hd => ?_) (fun v2 => ?_)
    · have hx := ((Below.refl w2.heap.size w2).drew).trans hg
      (try (have ee : v1 = (.bool false : Value) := hd 1 (by simp) (by decide); subst ee))
      clear hd hg
      go_wp2
      exact ⟨_, rfl, Below.refl _ _, rfl⟩
    (try simp only [List.cons_append, List.nil_append, Act.put, List.setIfInBounds_toArray, List.set_cons_zero, List.set_cons_succ])
    refine inv_cons (fun wx hg hd => ?_) (fun v3 => ?_)
    · have hx := ((Below.refl w2.heap.size w2).drew).trans hg
      (try (have ee : v2 = (.bool false : Value) := hd 2 (by simp) (by decide); subst ee))
      clear hd hg
      go_wp2
      exact ⟨_, rfl, Below.refl _ _, rfl⟩
    (try simp only [List.cons_append, List.nil_append, Act.put, List.setIfInBounds_toArray, List.set_cons_zero, List.set_cons_succ])
    refine inv_cons (fun wx hg hd => ?_) (fun v4 => ?_)
    · have hx := ((Below.refl w2.heap.size w2).drew).trans hg
      (try (have ee : v2 = (.bool false : Value) := hd 2 (by simp) (by decide); subst ee))
      (try (have ee : v3 = (undef : Value) := hd 3 (by simp) (by decide); subst ee))
      clear hd hg
      go_wp2
      exact ⟨_, rfl, Below.refl _ _, rfl⟩
    (try simp only [List.cons_append, List.nil_append, Act.put, List.setIfInBounds_toArray, List.set_cons_zero, List.set_cons_succ])
    refine inv_cons (fun wx hg hd => ?_) (fun v5 => ?_)
    · have hx := ((Below.refl w2.heap.size w2).drew).trans hg
      (try (have ee : v2 = (.bool false : Value) := hd 2 (by simp) (by decide); subst ee))
      clear hd hg
      go_wp2
      exact ⟨_, rfl, Below.refl _ _, rfl⟩
    (try simp only [List.cons_append, List.nil_append, Act.put, List.setIfInBounds_toArray, List.set_cons_zero, List.set_cons_succ])
    refine inv_cons (fun wx hg hd => ?_) (fun v6 => ?_)
    · have hx := ((Below.refl w2.heap.size w2).drew).trans hg
      (try (have ee : v2 = (.bool false : Value) := hd 2 (by simp) (by decide); subst ee))
      (try (have ee : v4 = (undef : Value) := hd 4 (by simp) (by decide); subst ee))
      (try (have ee : v5 = (undef : Value) := hd 5 (by simp) (by decide); subst ee))
      clear hd hg
      go_wp2
      exact ⟨_, rfl, Below.refl _ _, rfl⟩
    (try simp only [List.cons_append, List.nil_append, Act.put, List.setIfInBounds_toArray, List.set_cons_zero, List.set_cons_succ])
    refine inv_cons (fun wx hg hd => ?_) (fun v7 => ?_)
    · have hx := ((Below.refl w2.heap.size w2).drew).trans hg
      (try (have ee : v2 = (.bool false : Value) := hd 2 (by simp) (by decide); subst ee))
      (try (have ee : v6 = (undef : Value) := hd 6 (by simp) (by decide); subst ee))
      clear hd hg
      go_wp2
      exact ⟨_, rfl, Below.refl _ _, rfl⟩
    (try simp only [List.cons_append, List.nil_append, Act.put, List.setIfInBounds_toArray, List.set_cons_zero, List.set_cons_succ])
    refine inv_cons (fun wx hg hd => ?_) (fun v8 => ?_)
    · have hx := ((Below.refl w2.heap.size w2).drew).trans hg
      (try (have ee : v7 = (.bool false : Value) := hd 7 (by simp) (by decide); subst ee))
      clear hd hg
      go_wp2
      exact ⟨_, rfl, Below.refl _ _, rfl⟩
    (try simp only [List.cons_append, List.nil_append, Act.put, List.setIfInBounds_toArray, List.set_cons_zero, List.set_cons_succ])
    refine inv_done (fun wx hg hd => ?_)
    have hx := ((Below.refl w2.heap.size w2).drew).trans hg
    (have ee : v0 = (.agg #[.int .i64 t.1, .int .i64 t.2.1, .int .i64 t.2.2.1, .int .i64 t.2.2.2] : Value) := hd 0 (by simp); subst ee)
    (have ee : v1 = (.bool false : Value) := hd 1 (by simp); subst ee)
    (have ee : v2 = (.bool false : Value) := hd 2 (by simp); subst ee)
    (have ee : v3 = (undef : Value) := hd 3 (by simp); subst ee)
    (have ee : v4 = (undef : Value) := hd 4 (by simp); subst ee)
    (have ee : v5 = (undef : Value) := hd 5 (by simp); subst ee)
    (have ee : v6 = (undef : Value) := hd 6 (by simp); subst ee)
    (have ee : v7 = (.bool false : Value) := hd 7 (by simp); subst ee)
    (have ee : v8 = (.bool false : Value) := hd 8 (by simp); subst ee)
    clear hd hg
    (try go_simp)
    go_wp2
    go_ret
    exact ⟨by rw [HVV.out]; rfl, HB2.out.trans (hx.mono HB2.out.size)⟩
set_option maxRecDepth 100000 in
set_option maxHeartbeats 4000000 in
theorem kcask_gen {w : World} {q : KE} {xb yb : Nat} {t : TL} {x y r er : Int} {z : E2} {b : Bool} (hq : TileAt w q.1 t) (hx0 : w.cell? ⟨xb, 0, none⟩ = some (.int .i64 x)) (hy0 : w.cell? ⟨yb, 0, none⟩ = some (.int .i64 y))
    (hco : ∀ W, Calls Tryz.prog 33 #[.int .i64 x, .int .i64 y, .int .i64 t.2.2.2] W fun e w' => e = .returned (.tuple #[vC r z, .int .i64 er]) ∧ Below W.heap.size W w')
    (hvt : er = 0 → ∀ W, Calls Tryz.prog 34 #[tlV t, vC r z] W fun e w' => e = .returned (.bool b) ∧ Below W.heap.size W w') (hne : er ≠ 0 → b = false) :
    Calls Tryz.prog 32 (#[kP q] ++ #[.pointer (some ⟨xb, 0, none⟩), .pointer (some ⟨yb, 0, none⟩)]) w fun e w' => e = .returned (.bool b) ∧ Below w.heap.size w w' := by
  have HCO := Lib.hid hco
  have HQ := Lib.hid hq
  have hqs := hq.lt
  have HTQ : Hid (∀ W, Below w.heap.size w W → TileAt W q.1 t) := fun W hW => HQ.out.below hW
  have hxs := World.block_lt_of_cell? w _ hx0
  have hys := World.block_lt_of_cell? w _ hy0
  dsimp only at hxs hys
  have T := Lib.hid (show Value.agg #[.int .i64 t.1, .int .i64 t.2.1, .int .i64 t.2.2.1, .int .i64 t.2.2.2] = tlV t from rfl)
  have HVT := Lib.hid hvt
  have HNE := Lib.hid hne
  rw [← T.out] at HVT
  obtain ⟨z1, z2⟩ := z
  simp only [vC] at *
  unfold kP
  obtain ⟨qb, qu⟩ := q
  dsimp only at *
  clear hco hvt hne hq HQ
  show Calls Tryz.prog 32 #[.pointer (some ⟨qb, 0, none⟩), .pointer (some ⟨xb, 0, none⟩), .pointer (some ⟨yb, 0, none⟩)] w _
  have HX0 : Hid (∀ W, Below w.heap.size w W → W.cell? ⟨xb, 0, none⟩ = some (.int .i64 x)) := fun W hW => (hW.cell (p := ⟨xb, 0, none⟩) hxs).trans hx0
  have HY0 : Hid (∀ W, Below w.heap.size w W → W.cell? ⟨yb, 0, none⟩ = some (.int .i64 y)) := fun W hW => (hW.cell (p := ⟨yb, 0, none⟩) hys).trans hy0
  clear hx0 hy0
  go_enter Tryz.func32, Tryz.ntmps32
  go_upto_region 1 with (fail)
  refine wp_region_ind ([.val (.int .i64 x), .val (.int .i64 y), .val (.pointer (some ⟨qb, 0, none⟩)), .val (.pointer (some ⟨qb, 0, none⟩)), .val (.pointer (some ⟨qb, 0, none⟩)), .val (.pointer (some ⟨qb, 3, none⟩)), .val (.int .i64 t.2.2.2), .val (.tuple #[.agg #[.int .i64 r, .int .i64 z1, .int .i64 z2], .int .i64 er]), .val (.tuple #[.agg #[.int .i64 r, .int .i64 z1, .int .i64 z2], .int .i64 er]), .val (.agg #[.int .i64 r, .int .i64 z1, .int .i64 z2]), .val (.int .i64 er), .prop (pNew w.heap.size #[.int .i64 0, .int .i64 0, .int .i64 0] 72), .of 11 (pNew w.heap.size #[.int .i64 r, .int .i64 z1, .int .i64 z2] 72), .val (.int .i64 er)] : List Want3) [12] (by kernel_rfl) (by kernel_rfl) (by kernel_rfl) (by kernel_rfl) ?_
  refine ind_cons (fun wx hg hd => ?_) (fun v0 => ?_)
  · have hx := ((Below.refl w.heap.size w).drew).trans hg
    clear hd hg
    have k0 := HX0.out _ hx
    have hsx : xb < wx.heap.size := Nat.lt_of_lt_of_le hxs hx.size
    go_wp2
    exact ⟨_, rfl, Below.refl _ _, rfl⟩
  (try simp only [List.nil_append, Act.put, List.setIfInBounds_toArray, List.set_cons_zero, List.set_cons_succ])
  refine ind_cons (fun wx hg hd => ?_) (fun v1 => ?_)
  · have hx := ((Below.refl w.heap.size w).drew).trans hg
    clear hd hg
    have k0 := HY0.out _ hx
    have hsx : yb < wx.heap.size := Nat.lt_of_lt_of_le hys hx.size
    go_wp2
    exact ⟨_, rfl, Below.refl _ _, rfl⟩
  (try simp only [List.cons_append, List.nil_append, Act.put, List.setIfInBounds_toArray, List.set_cons_zero, List.set_cons_succ])
  refine ind_cons (fun wx hg hd => ?_) (fun v2 => ?_)
  · have hx := ((Below.refl w.heap.size w).drew).trans hg
    clear hd hg
    go_wp2
    exact ⟨_, rfl, Below.refl _ _, rfl⟩
  (try simp only [List.cons_append, List.nil_append, Act.put, List.setIfInBounds_toArray, List.set_cons_zero, List.set_cons_succ])
  refine ind_cons (fun wx hg hd => ?_) (fun v3 => ?_)
  · have hx := ((Below.refl w.heap.size w).drew).trans hg
    (try (have ee : v2 = (.pointer (some ⟨qb, 0, none⟩) : Value) := hd 2 (by simp) (by decide); subst ee))
    clear hd hg
    have hsx : qb < wx.heap.size := Nat.lt_of_lt_of_le hqs hx.size
    go_wp2
    exact ⟨_, rfl, Below.refl _ _, rfl⟩
  (try simp only [List.cons_append, List.nil_append, Act.put, List.setIfInBounds_toArray, List.set_cons_zero, List.set_cons_succ])
  refine ind_cons (fun wx hg hd => ?_) (fun v4 => ?_)
  · have hx := ((Below.refl w.heap.size w).drew).trans hg
    (try (have ee : v3 = (.pointer (some ⟨qb, 0, none⟩) : Value) := hd 3 (by simp) (by decide); subst ee))
    clear hd hg
    go_wp2
    exact ⟨_, rfl, Below.refl _ _, rfl⟩
  (try simp only [List.cons_append, List.nil_append, Act.put, List.setIfInBounds_toArray, List.set_cons_zero, List.set_cons_succ])
  refine ind_cons (fun wx hg hd => ?_) (fun v5 => ?_)
  · have hx := ((Below.refl w.heap.size w).drew).trans hg
    (try (have ee : v4 = (.pointer (some ⟨qb, 0, none⟩) : Value) := hd 4 (by simp) (by decide); subst ee))
    clear hd hg
    go_wp2
    exact ⟨_, rfl, Below.refl _ _, rfl⟩
  (try simp only [List.cons_append, List.nil_append, Act.put, List.setIfInBounds_toArray, List.set_cons_zero, List.set_cons_succ])
  refine ind_cons (fun wx hg hd => ?_) (fun v6 => ?_)
  · have hx := ((Below.refl w.heap.size w).drew).trans hg
    (try (have ee : v5 = (.pointer (some ⟨qb, 3, none⟩) : Value) := hd 5 (by simp) (by decide); subst ee))
    clear hd hg
    obtain ⟨k0, k1, k2, k3⟩ := HTQ.out _ hx
    have hsx : qb < wx.heap.size := Nat.lt_of_lt_of_le hqs hx.size
    go_wp2
    exact ⟨_, rfl, Below.refl _ _, rfl⟩
  (try simp only [List.cons_append, List.nil_append, Act.put, List.setIfInBounds_toArray, List.set_cons_zero, List.set_cons_succ])
  refine ind_cons (fun wx hg hd => ?_) (fun v7 => ?_)
  · have hx := ((Below.refl w.heap.size w).drew).trans hg
    (try (have ee : v0 = (.int .i64 x : Value) := hd 0 (by simp) (by decide); subst ee))
    (try (have ee : v1 = (.int .i64 y : Value) := hd 1 (by simp) (by decide); subst ee))
    (try (have ee : v6 = (.int .i64 t.2.2.2 : Value) := hd 6 (by simp) (by decide); subst ee))
    clear hd hg
    go_wp2_with fail
    refine (HCO.out _).mono ?_
    rintro e w' ⟨rfl, hb⟩
    go_wp2
    exact ⟨_, rfl, hb, rfl⟩
  (try simp only [List.cons_append, List.nil_append, Act.put, List.setIfInBounds_toArray, List.set_cons_zero, List.set_cons_succ])
  refine ind_cons (fun wx hg hd => ?_) (fun v8 => ?_)
  · have hx := ((Below.refl w.heap.size w).drew).trans hg
    (try (have ee : v7 = (.tuple #[.agg #[.int .i64 r, .int .i64 z1, .int .i64 z2], .int .i64 er] : Value) := hd 7 (by simp) (by decide); subst ee))
    clear hd hg
    go_wp2
    exact ⟨_, rfl, Below.refl _ _, rfl⟩
  (try simp only [List.cons_append, List.nil_append, Act.put, List.setIfInBounds_toArray, List.set_cons_zero, List.set_cons_succ])
  refine ind_cons (fun wx hg hd => ?_) (fun v9 => ?_)
  · have hx := ((Below.refl w.heap.size w).drew).trans hg
    (try (have ee : v8 = (.tuple #[.agg #[.int .i64 r, .int .i64 z1, .int .i64 z2], .int .i64 er] : Value) := hd 8 (by simp) (by decide); subst ee))
    clear hd hg
    go_wp2
    exact ⟨_, rfl, Below.refl _ _, rfl⟩
  (try simp only [List.cons_append, List.nil_append, Act.put, List.setIfInBounds_toArray, List.set_cons_zero, List.set_cons_succ])
  refine ind_cons (fun wx hg hd => ?_) (fun v10 => ?_)
  · have hx := ((Below.refl w.heap.size w).drew).trans hg
    (try (have ee : v8 = (.tuple #[.agg #[.int .i64 r, .int .i64 z1, .int .i64 z2], .int .i64 er] : Value) := hd 8 (by simp) (by decide); subst ee))
    clear hd hg
    go_wp2
    exact ⟨_, rfl, Below.refl _ _, rfl⟩
  (try simp only [List.cons_append, List.nil_append, Act.put, List.setIfInBounds_toArray, List.set_cons_zero, List.set_cons_succ])
  refine ind_cons (fun wx hg hd => ?_) (fun v11 => ?_)
  · have hx := ((Below.refl w.heap.size w).drew).trans hg
    clear hd hg
    go_wp2
    exact ⟨_, rfl, (Below.refl _ _).alloc (Nat.le_refl _) _, _, rfl, hx.size, by simp, heap_new _ _ _ rfl⟩
  (try simp only [List.cons_append, List.nil_append, Act.put, List.setIfInBounds_toArray, List.set_cons_zero, List.set_cons_succ])
  refine ind_cons (fun wx hg hd => ?_) (fun v12 => ?_)
  · have hx := ((Below.refl w.heap.size w).drew).trans hg
    (try (have ee : v9 = (.agg #[.int .i64 r, .int .i64 z1, .int .i64 z2] : Value) := hd 9 (by simp) (by decide); subst ee))
    have hp11 : (pNew w.heap.size #[.int .i64 0, .int .i64 0, .int .i64 0] 72 : SP).1 v11 wx := hd 11 (by simp) (by decide)
    clear hd
    obtain ⟨g, rfl, hg1, hg2, hg3⟩ := hp11
    have f0 := froz3 hg3
    have y0 := cell_of_row _ _ 0 _ _ _ hg3
    have y1 := cell_of_row _ _ 1 _ _ _ hg3
    have y2 := cell_of_row _ _ 2 _ _ _ hg3
    go_wp2
    exact ⟨undef, rfl, (((Below.refl _ wx).setCell (p := ⟨g, 0, none⟩) hg1 (.int .i64 r)).setCell (p := ⟨g, 1, none⟩) hg1 (.int .i64 z1)).setCell (p := ⟨g, 2, none⟩) hg1 (.int .i64 z2), fun _ => ⟨g, rfl, hg1, (by simpa using hg2), put_three hg3 (.int .i64 r) (.int .i64 z1) (.int .i64 z2)⟩⟩
  (try simp only [List.cons_append, List.nil_append, Act.put])
  refine ind_cons (fun wx hg hd => ?_) (fun v13 => ?_)
  · have hx := ((Below.refl w.heap.size w).drew).trans hg
    (try (have ee : v10 = (.int .i64 er : Value) := hd 10 (by simp) (by decide); subst ee))
    clear hd hg
    go_wp2
    exact ⟨_, rfl, Below.refl _ _, rfl⟩
  (try simp only [List.cons_append, List.nil_append, Act.put, List.setIfInBounds_toArray, List.set_cons_zero, List.set_cons_succ])
  refine ind_done (fun wx hg hd => ?_)
  have hx := ((Below.refl w.heap.size w).drew).trans hg
  (have ee : v0 = (.int .i64 x : Value) := hd 0 (by simp) (by kernel_rfl); subst ee)
  (have ee : v1 = (.int .i64 y : Value) := hd 1 (by simp) (by kernel_rfl); subst ee)
  (have ee : v2 = (.pointer (some ⟨qb, 0, none⟩) : Value) := hd 2 (by simp) (by kernel_rfl); subst ee)
  (have ee : v3 = (.pointer (some ⟨qb, 0, none⟩) : Value) := hd 3 (by simp) (by kernel_rfl); subst ee)
  (have ee : v4 = (.pointer (some ⟨qb, 0, none⟩) : Value) := hd 4 (by simp) (by kernel_rfl); subst ee)
  (have ee : v5 = (.pointer (some ⟨qb, 3, none⟩) : Value) := hd 5 (by simp) (by kernel_rfl); subst ee)
  (have ee : v6 = (.int .i64 t.2.2.2 : Value) := hd 6 (by simp) (by kernel_rfl); subst ee)
  (have ee : v7 = (.tuple #[.agg #[.int .i64 r, .int .i64 z1, .int .i64 z2], .int .i64 er] : Value) := hd 7 (by simp) (by kernel_rfl); subst ee)
  (have ee : v8 = (.tuple #[.agg #[.int .i64 r, .int .i64 z1, .int .i64 z2], .int .i64 er] : Value) := hd 8 (by simp) (by kernel_rfl); subst ee)
  (have ee : v9 = (.agg #[.int .i64 r, .int .i64 z1, .int .i64 z2] : Value) := hd 9 (by simp) (by kernel_rfl); subst ee)
  (have ee : v10 = (.int .i64 er : Value) := hd 10 (by simp) (by kernel_rfl); subst ee)
  have hp12 : (pNew w.heap.size #[.int .i64 r, .int .i64 z1, .int .i64 z2] 72 : SP).1 v11 wx := hd 12 (by simp) (by kernel_rfl) (by decide)
  (have ee : v13 = (.int .i64 er : Value) := hd 13 (by simp) (by kernel_rfl); subst ee)
  clear hd hg
  (try go_simp)
  obtain ⟨g, rfl, hg1, hg2, hg3⟩ := hp12
  have HXo := Lib.hid hx
  clear hx
  generalize wx = wo at *
  have hqo : qb < wo.heap.size := Nat.lt_of_lt_of_le hqs HXo.out.size
  have HTO : Hid (∀ W, Below wo.heap.size wo W → TileAt W qb t) := fun W hW => HTQ.out W (HXo.out.trans (hW.mono HXo.out.size))
  have HGO : Hid (∀ W, Below wo.heap.size wo W → W.heap[g]? = some (.cells #[.int .i64 r, .int .i64 z1, .int .i64 z2] 72 (0, 0))) := fun W hW => (hW.block _ hg2).trans hg3
  clear HTQ HX0 HY0 HCO hg3 hqs hxs hys
  go_upto_region 2 with (fail)
  by_cases her : er = 0
  · have HVT2 := Lib.hid (HVT.out her)
    subst her
    clear HVT HNE
    refine wp_region_inv (fun w w' => Below w.heap.size w w') (fun qi_ qv_ _ => qv_ = ([.int .i64 0, .bool true, .bool true, .pointer (some ⟨qb, 0, none⟩), .pointer (some ⟨qb, 0, none⟩), .pointer (some ⟨qb, 0, none⟩), .agg #[.int .i64 t.1, .int .i64 t.2.1, .int .i64 t.2.2.1, .int .i64 t.2.2.2], .agg #[.int .i64 r, .int .i64 z1, .int .i64 z2], .bool b, .bool b, .bool b] : List Value).getD qi_ undef) (by kernel_rfl) (by kernel_rfl) (fun _ => Below.refl _ _) (fun _ _ _ h1 h2 => below_later h1 h1.size h2) (fun _ _ _ _ _ _ h => h) ?_
    refine inv_cons (fun wx hg hd => ?_) (fun v0 => ?_)
    · have hx := ((Below.refl wo.heap.size wo).drew).trans hg
      clear hd hg
      go_wp2
      exact ⟨_, rfl, Below.refl _ _, rfl⟩
    (try simp only [List.nil_append, Act.put, List.setIfInBounds_toArray, List.set_cons_zero, List.set_cons_succ])
    refine inv_cons (fun wx hg hd => ?_) (fun v1 => ?_)
    · have hx := ((Below.refl wo.heap.size wo).drew).trans hg
      (try (have ee : v0 = (.int .i64 0 : Value) := hd 0 (by simp) (by decide); subst ee))
      clear hd hg
      go_wp2
      exact ⟨_, rfl, Below.refl _ _, rfl⟩
    (try simp only [List.cons_append, List.nil_append, Act.put, List.setIfInBounds_toArray, List.set_cons_zero, List.set_cons_succ])
    refine inv_cons (fun wx hg hd => ?_) (fun v2 => ?_)
    · have hx := ((Below.refl wo.heap.size wo).drew).trans hg
      (try (have ee : v1 = (.bool true : Value) := hd 1 (by simp) (by decide); subst ee))
      clear hd hg
      go_wp2
      exact ⟨_, rfl, Below.refl _ _, rfl⟩
    (try simp only [List.cons_append, List.nil_append, Act.put, List.setIfInBounds_toArray, List.set_cons_zero, List.set_cons_succ])
    refine inv_cons (fun wx hg hd => ?_) (fun v3 => ?_)
    · have hx := ((Below.refl wo.heap.size wo).drew).trans hg
      (try (have ee : v2 = (.bool true : Value) := hd 2 (by simp) (by decide); subst ee))
      clear hd hg
      go_wp2
      exact ⟨_, rfl, Below.refl _ _, rfl⟩
    (try simp only [List.cons_append, List.nil_append, Act.put, List.setIfInBounds_toArray, List.set_cons_zero, List.set_cons_succ])
    refine inv_cons (fun wx hg hd => ?_) (fun v4 => ?_)
    · have hx := ((Below.refl wo.heap.size wo).drew).trans hg
      (try (have ee : v2 = (.bool true : Value) := hd 2 (by simp) (by decide); subst ee))
      (try (have ee : v3 = (.pointer (some ⟨qb, 0, none⟩) : Value) := hd 3 (by simp) (by decide); subst ee))
      clear hd hg
      have hsx : qb < wx.heap.size := Nat.lt_of_lt_of_le hqo hx.size
      go_wp2
      exact ⟨_, rfl, Below.refl _ _, rfl⟩
    (try simp only [List.cons_append, List.nil_append, Act.put, List.setIfInBounds_toArray, List.set_cons_zero, List.set_cons_succ])
    refine inv_cons (fun wx hg hd => ?_) (fun v5 => ?_)
    · have hx := ((Below.refl wo.heap.size wo).drew).trans hg
      (try (have ee : v2 = (.bool true : Value) := hd 2 (by simp) (by decide); subst ee))
      (try (have ee : v4 = (.pointer (some ⟨qb, 0, none⟩) : Value) := hd 4 (by simp) (by decide); subst ee))
      clear hd hg
      go_wp2
      exact ⟨_, rfl, Below.refl _ _, rfl⟩
    (try simp only [List.cons_append, List.nil_append, Act.put, List.setIfInBounds_toArray, List.set_cons_zero, List.set_cons_succ])
    refine inv_cons (fun wx hg hd => ?_) (fun v6 => ?_)
    · have hx := ((Below.refl wo.heap.size wo).drew).trans hg
      (try (have ee : v2 = (.bool true : Value) := hd 2 (by simp) (by decide); subst ee))
      (try (have ee : v5 = (.pointer (some ⟨qb, 0, none⟩) : Value) := hd 5 (by simp) (by decide); subst ee))
      clear hd hg
      obtain ⟨k0, k1, k2, k3⟩ := HTO.out _ hx
      have hsx : qb < wx.heap.size := Nat.lt_of_lt_of_le hqo hx.size
      go_wp2
      exact ⟨_, rfl, Below.refl _ _, rfl⟩
    (try simp only [List.cons_append, List.nil_append, Act.put, List.setIfInBounds_toArray, List.set_cons_zero, List.set_cons_succ])
    refine inv_cons (fun wx hg hd => ?_) (fun v7 => ?_)
    · have hx := ((Below.refl wo.heap.size wo).drew).trans hg
      (try (have ee : v2 = (.bool true : Value) := hd 2 (by simp) (by decide); subst ee))
      clear hd hg
      have y := HGO.out _ hx
      have k0 := cell_of_row _ _ 0 _ _ _ y
      have k1 := cell_of_row _ _ 1 _ _ _ y
      have k2 := cell_of_row _ _ 2 _ _ _ y
      have hsx : g < wx.heap.size := Nat.lt_of_lt_of_le hg2 hx.size
      go_wp2
      exact ⟨_, rfl, Below.refl _ _, rfl⟩
    (try simp only [List.cons_append, List.nil_append, Act.put, List.setIfInBounds_toArray, List.set_cons_zero, List.set_cons_succ])
    refine inv_cons (fun wx hg hd => ?_) (fun v8 => ?_)
    · have hx := ((Below.refl wo.heap.size wo).drew).trans hg
      (try (have ee : v2 = (.bool true : Value) := hd 2 (by simp) (by decide); subst ee))
      (try (have ee : v6 = (.agg #[.int .i64 t.1, .int .i64 t.2.1, .int .i64 t.2.2.1, .int .i64 t.2.2.2] : Value) := hd 6 (by simp) (by decide); subst ee))
      (try (have ee : v7 = (.agg #[.int .i64 r, .int .i64 z1, .int .i64 z2] : Value) := hd 7 (by simp) (by decide); subst ee))
      clear hd hg
      go_wp2_with fail
      refine (HVT2.out _).mono ?_
      rintro e w' ⟨rfl, hb⟩
      go_wp2
      exact ⟨_, rfl, hb, rfl⟩
    (try simp only [List.cons_append, List.nil_append, Act.put, List.setIfInBounds_toArray, List.set_cons_zero, List.set_cons_succ])
    refine inv_cons (fun wx hg hd => ?_) (fun v9 => ?_)
    · have hx := ((Below.refl wo.heap.size wo).drew).trans hg
      (try (have ee : v2 = (.bool true : Value) := hd 2 (by simp) (by decide); subst ee))
      (try (have ee : v8 = (.bool b : Value) := hd 8 (by simp) (by decide); subst ee))
      clear hd hg
      go_wp2
      exact ⟨_, rfl, Below.refl _ _, rfl⟩
    (try simp only [List.cons_append, List.nil_append, Act.put, List.setIfInBounds_toArray, List.set_cons_zero, List.set_cons_succ])
    refine inv_cons (fun wx hg hd => ?_) (fun v10 => ?_)
    · have hx := ((Below.refl wo.heap.size wo).drew).trans hg
      (try (have ee : v9 = (.bool b : Value) := hd 9 (by simp) (by decide); subst ee))
      clear hd hg
      go_wp2
      exact ⟨_, rfl, Below.refl _ _, rfl⟩
    (try simp only [List.cons_append, List.nil_append, Act.put, List.setIfInBounds_toArray, List.set_cons_zero, List.set_cons_succ])
    refine inv_done (fun wx hg hd => ?_)
    have hx := ((Below.refl wo.heap.size wo).drew).trans hg
    (have ee : v0 = (.int .i64 0 : Value) := hd 0 (by simp); subst ee)
    (have ee : v1 = (.bool true : Value) := hd 1 (by simp); subst ee)
    (have ee : v2 = (.bool true : Value) := hd 2 (by simp); subst ee)
    (have ee : v3 = (.pointer (some ⟨qb, 0, none⟩) : Value) := hd 3 (by simp); subst ee)
    (have ee : v4 = (.pointer (some ⟨qb, 0, none⟩) : Value) := hd 4 (by simp); subst ee)
    (have ee : v5 = (.pointer (some ⟨qb, 0, none⟩) : Value) := hd 5 (by simp); subst ee)
    (have ee : v6 = (.agg #[.int .i64 t.1, .int .i64 t.2.1, .int .i64 t.2.2.1, .int .i64 t.2.2.2] : Value) := hd 6 (by simp); subst ee)
    (have ee : v7 = (.agg #[.int .i64 r, .int .i64 z1, .int .i64 z2] : Value) := hd 7 (by simp); subst ee)
    (have ee : v8 = (.bool b : Value) := hd 8 (by simp); subst ee)
    (have ee : v9 = (.bool b : Value) := hd 9 (by simp); subst ee)
    (have ee : v10 = (.bool b : Value) := hd 10 (by simp); subst ee)
    clear hd hg
    (try go_simp)
    go_wp2
    go_ret
    exact ⟨rfl, HXo.out.trans (hx.mono HXo.out.size)⟩
  · have HBF : Hid (b = false) := HNE.out her
    have q0 : (er == 0) = false := beq_eq_false_iff_ne.2 her
    clear HVT HNE her
    refine wp_region_inv (fun w w' => Below w.heap.size w w') (fun qi_ qv_ _ => qv_ = ([.int .i64 er, .bool false, .bool false, undef, undef, undef, undef, undef, undef, .bool false, .bool false] : List Value).getD qi_ undef) (by kernel_rfl) (by kernel_rfl) (fun _ => Below.refl _ _) (fun _ _ _ h1 h2 => below_later h1 h1.size h2) (fun _ _ _ _ _ _ h => h) ?_
    refine inv_cons (fun wx hg hd => ?_) (fun v0 => ?_)
    · have hx := ((Below.refl wo.heap.size wo).drew).trans hg
      clear hd hg
      go_wp2
      exact ⟨_, rfl, Below.refl _ _, rfl⟩
    (try simp only [List.nil_append, Act.put, List.setIfInBounds_toArray, List.set_cons_zero, List.set_cons_succ])
    refine inv_cons (fun wx hg hd => ?_) (fun v1 => ?_)
    · have hx := ((Below.refl wo.heap.size wo).drew).trans hg
      (try (have ee : v0 = (.int .i64 er : Value) := hd 0 (by simp) (by decide); subst ee))
      clear hd hg
      go_wp2
      exact ⟨_, rfl, Below.refl _ _, rfl⟩
    (try simp only [List.cons_append, List.nil_append, Act.put, List.setIfInBounds_toArray, List.set_cons_zero, List.set_cons_succ])
    refine inv_cons (fun wx hg hd => ?_) (fun v2 => ?_)
    · have hx := ((Below.refl wo.heap.size wo).drew).trans hg
      (try (have ee : v1 = (.bool false : Value) := hd 1 (by simp) (by decide); subst ee))
      clear hd hg
      go_wp2
      exact ⟨_, rfl, Below.refl _ _, rfl⟩
    (try simp only [List.cons_append, List.nil_append, Act.put, List.setIfInBounds_toArray, List.set_cons_zero, List.set_cons_succ])
    refine inv_cons (fun wx hg hd => ?_) (fun v3 => ?_)
    · have hx := ((Below.refl wo.heap.size wo).drew).trans hg
      (try (have ee : v2 = (.bool false : Value) := hd 2 (by simp) (by decide); subst ee))
      clear hd hg
      go_wp2
      exact ⟨_, rfl, Below.refl _ _, rfl⟩
    (try simp only [List.cons_append, List.nil_append, Act.put, List.setIfInBounds_toArray, List.set_cons_zero, List.set_cons_succ])
    refine inv_cons (fun wx hg hd => ?_) (fun v4 => ?_)
    · have hx := ((Below.refl wo.heap.size wo).drew).trans hg
      (try (have ee : v2 = (.bool false : Value) := hd 2 (by simp) (by decide); subst ee))
      (try (have ee : v3 = (undef : Value) := hd 3 (by simp) (by decide); subst ee))
      clear hd hg
      go_wp2
      exact ⟨_, rfl, Below.refl _ _, rfl⟩
    (try simp only [List.cons_append, List.nil_append, Act.put, List.setIfInBounds_toArray, List.set_cons_zero, List.set_cons_succ])
    refine inv_cons (fun wx hg hd => ?_) (fun v5 => ?_)
    · have hx := ((Below.refl wo.heap.size wo).drew).trans hg
      (try (have ee : v2 = (.bool false : Value) := hd 2 (by simp) (by decide); subst ee))
      (try (have ee : v4 = (undef : Value) := hd 4 (by simp) (by decide); subst ee))
      clear hd hg
      go_wp2
      exact ⟨_, rfl, Below.refl _ _, rfl⟩
    (try simp only [List.cons_append, List.nil_append, Act.put, List.setIfInBounds_toArray, List.set_cons_zero, List.set_cons_succ])
    refine inv_cons (fun wx hg hd => ?_) (fun v6 => ?_)
    · have hx := ((Below.refl wo.heap.size wo).drew).trans hg
      (try (have ee : v2 = (.bool false : Value) := hd 2 (by simp) (by decide); subst ee))
      (try (have ee : v5 = (undef : Value) := hd 5 (by simp) (by decide); subst ee))
      clear hd hg
      go_wp2
      exact ⟨_, rfl, Below.refl _ _, rfl⟩
    (try simp only [List.cons_append, List.nil_append, Act.put, List.setIfInBounds_toArray, List.set_cons_zero, List.set_cons_succ])
    refine inv_cons (fun wx hg hd => ?_) (fun v7 => ?_)
    · have hx := ((Below.refl wo.heap.size wo).drew).trans hg
      (try (have ee : v2 = (.bool false : Value) := hd 2 (by simp) (by decide); subst ee))
      clear hd hg
      go_wp2
      exact ⟨_, rfl, Below.refl _ _, rfl⟩
    (try simp only [List.cons_append, List.nil_append, Act.put, List.setIfInBounds_toArray, List.set_cons_zero, List.set_cons_succ])
    refine inv_cons (fun wx hg hd => ?_) (fun v8 => ?_)
    · have hx := ((Below.refl wo.heap.size wo).drew).trans hg
      (try (have ee : v2 = (.bool false : Value) := hd 2 (by simp) (by decide); subst ee))
      (try (have ee : v6 = (undef : Value) := hd 6 (by simp) (by decide); subst ee))
      (try (have ee : v7 = (undef : Value) := hd 7 (by simp) (by decide); subst ee))
      clear hd hg
      go_wp2
      exact ⟨_, rfl, Below.refl _ _, rfl⟩
    (try simp only [List.cons_append, List.nil_append, Act.put, List.setIfInBounds_toArray, List.set_cons_zero, List.set_cons_succ])
    refine inv_cons (fun wx hg hd => ?_) (fun v9 => ?_)
    · have hx := ((Below.refl wo.heap.size wo).drew).trans hg
      (try (have ee : v2 = (.bool false : Value) := hd 2 (by simp) (by decide); subst ee))
      (try (have ee : v8 = (undef : Value) := hd 8 (by simp) (by decide); subst ee))
      clear hd hg
      go_wp2
      exact ⟨_, rfl, Below.refl _ _, rfl⟩
    (try simp only [List.cons_append, List.nil_append, Act.put, List.setIfInBounds_toArray, List.set_cons_zero, List.set_cons_succ])
    refine inv_cons (fun wx hg hd => ?_) (fun v10 => ?_)
    · have hx := ((Below.refl wo.heap.size wo).drew).trans hg
      (try (have ee : v9 = (.bool false : Value) := hd 9 (by simp) (by decide); subst ee))
      clear hd hg
      go_wp2
      exact ⟨_, rfl, Below.refl _ _, rfl⟩
    (try simp only [List.cons_append, List.nil_append, Act.put, List.setIfInBounds_toArray, List.set_cons_zero, List.set_cons_succ])
    refine inv_done (fun wx hg hd => ?_)
    have hx := ((Below.refl wo.heap.size wo).drew).trans hg
    (have ee : v0 = (.int .i64 er : Value) := hd 0 (by simp); subst ee)
    (have ee : v1 = (.bool false : Value) := hd 1 (by simp); subst ee)
    (have ee : v2 = (.bool false : Value) := hd 2 (by simp); subst ee)
    (have ee : v3 = (undef : Value) := hd 3 (by simp); subst ee)
    (have ee : v4 = (undef : Value) := hd 4 (by simp); subst ee)
    (have ee : v5 = (undef : Value) := hd 5 (by simp); subst ee)
    (have ee : v6 = (undef : Value) := hd 6 (by simp); subst ee)
    (have ee : v7 = (undef : Value) := hd 7 (by simp); subst ee)
    (have ee : v8 = (undef : Value) := hd 8 (by simp); subst ee)
    (have ee : v9 = (.bool false : Value) := hd 9 (by simp); subst ee)
    (have ee : v10 = (.bool false : Value) := hd 10 (by simp); subst ee)
    clear hd hg
    (try go_simp)
    go_wp2
    go_ret
    exact ⟨by rw [HBF.out]; rfl, HXo.out.trans (hx.mono HXo.out.size)⟩
/-- Whether a point clears a tile. -/
def goneT (x y : Int) (t : TL) : Bool := worldB x y && vtB t t.2.2.2 (nearE x y t.2.2.2.toNat)
theorem kcask_any {w : World} {q : KE} {xb yb : Nat} {t : TL} {x y : Int} (hi : isT t = true) (hq : TileAt w q.1 t) (hx0 : w.cell? ⟨xb, 0, none⟩ = some (.int .i64 x)) (hy0 : w.cell? ⟨yb, 0, none⟩ = some (.int .i64 y)) :
    Calls Tryz.prog 32 (#[kP q] ++ #[.pointer (some ⟨xb, 0, none⟩), .pointer (some ⟨yb, 0, none⟩)]) w fun e w' => e = .returned (.bool (goneT x y t)) ∧ Below w.heap.size w w' := by
  unfold goneT
  cases hw : worldB x y with
  | true =>
    obtain ⟨-, h2, -⟩ := isT_parts hi
    obtain ⟨R, hR⟩ : ∃ R : Nat, t.2.2.2 = (R : Int) := ⟨t.2.2.2.toNat, by omega⟩
    rw [Bool.true_and]
    refine kcask_gen (er := 0) (r := t.2.2.2) (z := nearE x y t.2.2.2.toNat) hq hx0 hy0 (fun W => ?_) (fun _ W => vtouch_any t _ _ W) fun h => absurd rfl h
    rw [hR, Int.toNat_natCast]
    exact cof_in x y hw R (by omega) W
  | false =>
    rw [Bool.false_and]
    exact kcask_gen (er := 4) (r := 0) (z := (0, 0)) hq hx0 hy0 (fun W => cof_out x y _ hw W) (fun h => absurd h (by decide)) fun _ => rfl
end Go.Proofs.YtjimcjhgjfhbiaaGreat
/- Contract of (*cache.Cache).Clear. -/
namespace Go.Proofs.YtjimcjhgjfhbiaaGreat
open Go.RowKit Go.Lib Wd Cv

theorem RowK.struck {w w3 : World} {r m c : Nat} {vo : Option Addr} {L L' : List KE} (h : RowK w 0 r 2 vo c L) (hm : L'.length = m) (hsub : ∀ q ∈ L', q ∈ L) (hle : m ≤ L.length) (ho : w3.ownsRow 0 64 1 (.slice vo m c) m (kV L')) (ht : Turn (fun k => vo = some ⟨k, 0, none⟩) w w3) :
    RowK (w3.setCell ⟨r, 2, none⟩ (.slice vo m c)) 0 r 2 vo c L' ∧ TK r 2 vo w (w3.setCell ⟨r, 2, none⟩ (.slice vo m c)) := by
  subst hm
  have hr := h.lt
  have hvr : ¬ vo = some ⟨r, 0, none⟩ := fun e => h.2.2.2.1 _ _ _ e rfl
  have er3 : ∀ b, b < w.heap.size → ¬ vo = some ⟨b, 0, none⟩ → w3.heap[b]? = w.heap[b]? := fun b hlt hne => ht.2.2.2.2 b hlt hne
  have c3 : ∀ j, w3.cell? ⟨r, j, none⟩ = w.cell? ⟨r, j, none⟩ := fun j => World.cell?_of_block (w := w) (a := ⟨r, j, none⟩) (er3 r hr hvr)
  have f3 : ∀ j, w3.frozen? ⟨r, j, none⟩ = w.frozen? ⟨r, j, none⟩ := fun j => World.frozen?_of_block (w := w) (a := ⟨r, j, none⟩) (er3 r hr hvr)
  refine ⟨⟨World.cell?_setCell_same _ _ _ ((c3 2).trans h.1), ?_, ?_, h.2.2.2.1, by have := h.len; omega, fun q hq => ?_⟩, ?_, fun j hj => ?_, fun j => ?_⟩
  · rw [World.frozen?_setCell]; exact (f3 2).trans h.2.1
  · cases vo with
    | none => exact ownsRow_setCell_other ho (by simp [Value.ownBlock]) _
    | some a =>
      obtain ⟨g, o, s⟩ := a
      exact ownsRow_setCell_other ho (by have := h.2.2.2.1 g o s rfl; cases s <;> simp [Value.ownBlock, this]) _
  · have hu := h.used q (hsub q hq)
    have hql := World.block_lt_of_cell? w _ hu.1
    refine ⟨?_, hu.2⟩
    rw [World.cell?_setCell_other _ _ _ _ (by intro he; exact hu.2.1 (congrArg Addr.block he).symm), World.cell?_of_block (w := w) (a := ⟨q.1, 5, none⟩) (er3 q.1 hql fun e => hu.2.2 _ _ _ e rfl)]
    exact hu.1
  · exact (ht.mono fun k e => (.inr ⟨0, none, e⟩ : FootK r vo k)).setCell (.inl rfl) _
  · rw [World.cell?_setCell_other _ _ _ _ (fun he => hj (congrArg Addr.off he).symm)]; exact c3 j
  · rw [World.frozen?_setCell]; exact f3 j
theorem struck_perm {M : List CE} {L : List KE} (hr : M.Pairwise fun a b => a.1.2 < b.1.2) (hp : L.Perm (M.map (·.1))) (f : TL → Bool) : (L.filter fun q => !f (tlOf M q)).Perm ((M.filter fun e => !f e.2.1).map (·.1)) := by
  have h1 := hp.filter fun q => !f (tlOf M q)
  rw [List.filter_map] at h1
  have h2 : M.filter ((fun q => !f (tlOf M q)) ∘ (·.1)) = M.filter fun e => !f e.2.1 := List.filter_congr fun e he => by show (!f (tlOf M e.1)) = _; rw [tlOf_eq hr he]
  rwa [h2] at h1
theorem CoreAt.struck {S T : Nat → Prop} {w w' : World} {r mst now c : Nat} {M : List CE} {vo : Option Addr} {L L' : List KE} (h : CoreAt w r S T mst now M vo c L) (f : TL → Bool) (hp : L'.Perm (L.filter fun q => !f (tlOf M q))) (hh : HeapK L'.length L') (hr : RowK w' 0 r 2 vo c L') (ht : TK r 2 vo w w') :
    ∃ S' : Nat → Prop, CoreAt w' r S' T mst now (M.filter fun e => !f e.2.1) vo c L' ∧ ∀ k, k < w.heap.size → S' k → S k := by
  refine ⟨_, h.heaped ht hr hh (fun g o s e hk => .inr ⟨o, s, e⟩) (hp.trans (struck_perm h.rise h.perm f)) List.filter_sublist, fun k hk hs => ?_⟩
  rcases hs with hs | ⟨o, s, _, hs⟩
  · exact hs
  · omega
/-- The list behind a Clear. -/
def clearA (A : List AE) (x y : Int) : List AE := A.filter fun a => !goneT x y a.1
def ClearP (w : World) (r : Nat) (S T : Nat → Prop) (mst N : Nat) (A : List AE) (x y : Int) (e : Ending) (w' : World) : Prop :=
  e = .returned (.int .i64 ((A.length : Int) - (clearA A x y).length)) ∧ CTo w r S T mst N (clearA A x y) w'
set_option maxRecDepth 100000 in
set_option maxHeartbeats 4000000 in
theorem kclear_any {S T : Nat → Prop} {w : World} {r mst N : Nat} {A : List AE} (h : CacheIs w r S T mst N A) (hT : ∀ a ∈ A, isT a.1 = true) (x y : Int) :
    Calls Tryz.prog 10 #[.pointer (some ⟨r, 0, none⟩), .int .i64 x, .int .i64 y] w (ClearP w r S T mst N A x y) := by
  obtain ⟨now, M, vo, c, L, hc, hnow, rfl, hlen, hm0⟩ := h
  obtain ⟨w1, hw1⟩ : ∃ W, w.alloc (.cells #[.int .i64 x] 2) = W := ⟨_, rfl⟩
  obtain ⟨w2, hw2⟩ : ∃ W, w1.alloc (.cells #[.int .i64 y] 2) = W := ⟨_, rfl⟩
  have y0 : w1.heap[w.heap.size]? = some (.cells #[.int .i64 x] 2 (0, 0)) := by rw [← hw1]; exact heap_new _ _ _ rfl
  have y1 : w2.heap[w1.heap.size]? = some (.cells #[.int .i64 y] 2 (0, 0)) := by rw [← hw2]; exact heap_new _ _ _ rfl
  have hb1 : Below w.heap.size w w1 := by rw [← hw1]; exact (Below.refl _ _).alloc (Nat.le_refl _) _
  have hb2 : Below w1.heap.size w1 w2 := by rw [← hw2]; exact (Below.refl _ _).alloc (Nat.le_refl _) _
  have g0 := (Array.getElem?_eq_some_iff.1 y0).1
  have g1 := (Array.getElem?_eq_some_iff.1 y1).1
  have y2 := (hb2.block _ g0).trans y0
  have c0 : w2.cell? ⟨w.heap.size, 0, none⟩ = some (.int .i64 x) := cell_of_row _ _ 0 _ _ _ y2
  have c1 : w2.cell? ⟨w1.heap.size, 0, none⟩ = some (.int .i64 y) := cell_of_row _ _ 0 _ _ _ y1
  have hbb := hb1.trans (hb2.mono hb1.size)
  have hc2 := hc.below hbb
  have hr2 := hc2.row
  have hrlt := hr2.lt
  obtain ⟨n, hn⟩ : ∃ n, L.length = n := ⟨_, rfl⟩
  have hn0 : n ≤ 1000000 := by have := hr2.len; omega
  have hML : M.length = n := by rw [← hn, hc.perm.length_eq, List.length_map]
  obtain ⟨blk, hblk⟩ : ∃ blk, (∀ g o s, vo = some ⟨g, o, s⟩ → g = blk) ∧ (vo = none → blk = w2.heap.size) := by
    cases vo with
    | none => exact ⟨w2.heap.size, (fun g o s e => by cases e), fun _ => rfl⟩
    | some a => obtain ⟨g, o, s⟩ := a; exact ⟨g, (fun g' o' s' e => by cases e; rfl), fun e => by cases e⟩
  have hold : ∀ q ∈ L, q.1 < w.heap.size ∧ q.1 ≠ blk := fun q hq => by
    have hu := hc.row.used q hq
    have hq0 := World.block_lt_of_cell? w _ hu.1
    dsimp only at hq0
    refine ⟨hq0, fun e => ?_⟩
    cases hv : vo with
    | none => have := hblk.2 hv; have := hbb.size; omega
    | some a => obtain ⟨g, o, s⟩ := a; exact hu.2.2 g o s hv ((hblk.1 g o s hv).trans e.symm)
  have hnew : w.heap.size ≠ blk ∧ w1.heap.size ≠ blk := by
    cases hv : vo with
    | none => have := hblk.2 hv; omega
    | some a =>
      obtain ⟨g, o, s⟩ := a
      have e1 := hblk.1 g o s hv
      have := hc.ltS g (hc.rowS g o s hv)
      have := hb1.size
      omega
  have hask : AskT 32 #[.pointer (some ⟨w.heap.size, 0, none⟩), .pointer (some ⟨w1.heap.size, 0, none⟩)] (fun q => goneT x y (tlOf M q)) w2 blk L := by
    intro W q hW hq
    obtain ⟨e, he, rfl⟩ := List.mem_map.1 (hc.perm.mem_iff.1 hq)
    obtain ⟨hq1, hq2⟩ := hold _ hq
    show Calls Tryz.prog 32 _ W fun e' w' => e' = .returned (.bool (goneT x y (tlOf M e.1))) ∧ Below W.heap.size W w'
    rw [tlOf_eq hc.rise he]
    have hta := (hc2.ents e he).1.1
    have hlt2 := hta.lt
    exact kcask_any (hT _ (List.mem_map_of_mem he)) (hta.block (hW.2.2.2.2 _ hlt2 hq2)) ((hW.cell (p := ⟨w.heap.size, 0, none⟩) (by have := hb2.size; exact Nat.lt_of_lt_of_le g0 this) hnew.1).trans c0) ((hW.cell (p := ⟨w1.heap.size, 0, none⟩) g1 hnew.2).trans c1)
  have HDF := Lib.hid (kcdelete_any _ _ vo n c L w2 0 blk hn hn0 (Nat.zero_le _) (by have := hr2.2.2.1; rwa [hn] at this) hask hblk.1)
  have HST : Hid (∀ w3 m, m = (L.filter fun q => !goneT x y (tlOf M q)).length → w3.ownsRow 0 64 1 (.slice vo m c) m (kV (L.filter fun q => !goneT x y (tlOf M q))) → Turn (fun k => vo = some ⟨k, 0, none⟩) w2 w3 → RowK (w3.setCell ⟨r, 2, none⟩ (.slice vo m c)) 0 r 2 vo c (L.filter fun q => !goneT x y (tlOf M q)) ∧ TK r 2 vo w2 (w3.setCell ⟨r, 2, none⟩ (.slice vo m c))) := fun w3 m hm ho ht =>
    hr2.struck hm.symm (fun q hq => (List.mem_filter.1 hq).1) (by rw [hm]; exact List.length_filter_le _ _) ho ht
  have HEN : Hid (∀ w5 L', L'.Perm (L.filter fun q => !goneT x y (tlOf M q)) → HeapK L'.length L' → RowK w5 0 r 2 vo c L' → TK r 2 vo w2 w5 → CTo w r S T mst N (clearA (M.map (·.2)) x y) w5 ∧ L'.length = (clearA (M.map (·.2)) x y).length) := fun w5 L' hp hh hr ht => by
    obtain ⟨S', h1, h2⟩ := hc2.struck (goneT x y) hp hh hr ht
    have hA : (M.filter fun e => !goneT x y e.2.1).map (·.2) = clearA (M.map (·.2)) x y := by
      unfold clearA; rw [List.filter_map]; rfl
    refine ⟨cto_core h1 hnow hA ?_ hm0 ((Turn.of_below hbb).trans (ht.1.mono fun k hk => hc.foot k hk) fun _ _ h => h) fun k hk hs => ?_, ?_⟩
    · unfold clearA; exact Nat.le_trans (List.length_filter_le _ _) hlen
    · rcases hs with hs | hs
      · exact .inl (h2 k (Nat.lt_of_lt_of_le hk hbb.size) hs)
      · exact .inr hs
    · rw [← hA, List.length_map]
      have := h1.perm.length_eq
      rwa [List.length_map] at this
  have c2 := hr2.head hn
  have f2 := hr2.2.1
  have hvr : ¬ vo = some ⟨r, 0, none⟩ := fun e => hr2.2.2.2.1 _ _ _ e rfl
  have HC3 : Hid (∀ w3, Turn (fun k => vo = some ⟨k, 0, none⟩) w2 w3 → w3.cell? ⟨r, 2, none⟩ = some (.slice vo n c) ∧ w3.frozen? ⟨r, 2, none⟩ = false ∧ r < w3.heap.size) := fun w3 ht =>
    ⟨(ht.cell (p := ⟨r, 2, none⟩) hrlt hvr).trans c2, (World.frozen?_of_block (w := w2) (a := ⟨r, 2, none⟩) (ht.2.2.2.2 r hrlt hvr)).trans f2, Nat.lt_of_lt_of_le hrlt ht.2.2.2.1⟩
  obtain ⟨F, hF⟩ : ∃ F, (L.filter fun q => !goneT x y (tlOf M q)) = F := ⟨_, rfl⟩
  rw [hF] at HDF HST HEN
  have hFn : F.length ≤ n := by rw [← hF, ← hn]; exact List.length_filter_le _ _
  have HML : Hid (((M.map (·.2)).length : Int) = n) := by show _ = _; rw [List.length_map, hML]
  have HQ : Hid (∀ (w5 : World) (L' : List KE), L'.length = (clearA (M.map (·.2)) x y).length → CTo w r S T mst N (clearA (M.map (·.2)) x y) w5 → ClearP w r S T mst N (M.map (·.2)) x y (.returned (.int .i64 ((n : Int) - L'.length))) w5) := fun w5 L' hl hq => by
    refine ⟨?_, hq⟩
    rw [HML.out, hl]
  have HW1 := Lib.hid hw1
  have HW2 := Lib.hid hw2
  generalize (fun q => goneT x y (tlOf M q)) = pp at *
  generalize ClearP w r S T mst N (M.map (·.2)) x y = Q at *
  generalize clearA (M.map (·.2)) x y = CA at *
  obtain ⟨m, hm⟩ : ∃ m, F.length = m := ⟨_, rfl⟩
  rw [hm] at HDF hFn
  have HM := Lib.hid hm
  clear hc hnow hlen hm0 hw1 hw2 y0 y1 y2 hb1 hb2 hbb hc2 hr2 hML hblk hold hnew hask hF HML hm hT
  go_enter Tryz.func10, Tryz.ntmps10
  go_upto_region 3 with (first | rw [HW1.out] | rw [HW2.out])
  go_wp2_with fail
  refine HDF.out.mono ?_
  rintro e w3 ⟨rfl, ho3, ht3⟩
  obtain ⟨d0, d1, d2⟩ := HC3.out w3 ht3
  obtain ⟨hr4, ht4⟩ := HST.out w3 m HM.out.symm ho3 ht3
  have HT4 := Lib.hid ht4
  have HR4 := Lib.hid hr4
  have HIN := Lib.hid (hinitK_any hr4)
  have hlt4 : r < (w3.setCell ⟨r, 2, none⟩ (.slice vo m c)).heap.size := by simpa using d2
  clear ho3 ht3 hr4 ht4 HST HDF HC3
  as_aux_lemma =>
    go_upto_region 4 with (fail)
    generalize w3.setCell ⟨r, 2, none⟩ (.slice vo m c) = w4 at *
    unfold ifcK at HIN
    clear d0 d1 d2
    go_wp2_with fail
    refine HIN.out.mono ?_
    rintro e w5 ⟨rfl, L', hp5, hh5, hr5, ht5⟩
    obtain ⟨hq1, hq2⟩ := HEN.out w5 L' hp5 hh5 hr5 (HT4.out.trans ht5 fun _ _ h => h)
    have HQQ := Lib.hid (HQ.out w5 L' hq2 hq1)
    have e0 := hr5.1
    have e1 := hr5.lt
    have hl5 : L'.length ≤ n := by rw [hp5.length_eq, HM.out]; exact hFn
    generalize L'.length = k at *
    clear hp5 hh5 hr5 ht5 hq1 hq2 HQ HEN HIN
    go_wp2
    exact HQQ.out
end Go.Proofs.YtjimcjhgjfhbiaaGreat
