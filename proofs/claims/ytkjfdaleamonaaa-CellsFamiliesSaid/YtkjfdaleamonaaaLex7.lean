/- The law for a region that draws its order, of which the last operations come behind all others, one behind the other: what is ahead of them is looked at once each, from whatever later world. -/
import Derived.Test.YtkjfdaleamonaaaLex4
import Derived.StillTail
namespace Go.Proofs.Ytkjfdaleamonaaa
open Go
section
variable {P : Program} {ops : Array Oper}
/-- The last operations, from place n on, wait for all others, and come in the order of the text. -/
def endB (ops : Array Oper) (n : Nat) : Bool :=
  decide (n ≤ ops.size) && ((List.range ops.size).all fun t => decide (t < n) || (List.range n).all fun i => ((waits ops.toList []).getD t 0).testBit i) &&
  Region.seqB .any ops (ops.size - n) n (Array.replicate n true ++ Array.replicate (ops.size - n) false)
theorem arr_cut {listed : Array Bool} {n s : Nat} (hs : listed.size = s) (hn : n ≤ s) (h1 : ∀ i, i < n → listed.getD i false = true) (h2 : ∀ i, n ≤ i → listed.getD i false = false) : listed = Array.replicate n true ++ Array.replicate (s - n) false := by
  apply Array.ext
  · simp; omega
  · intro i hi hi2
    rcases Nat.lt_or_ge i n with h | h
    · have := h1 i h
      rw [Array.getElem_append_left (by simpa using h)]
      simp [hi] at this ⊢
      exact this
    · have := h2 i h
      rw [Array.getElem_append_right (by simpa using h)]
      simp [hi] at this ⊢
      exact this
theorem inv_end {l : List Oper} {n : Nat} {Q : Exit → Act → World → Prop} {G : World → World → Prop} {w0 : World} {R : Nat → Value → World → Prop} {a0 : Act} (hB : invB l.toArray = true) (hE : endB l.toArray n = true)
    (Gt : ∀ w w1 w2, G w w1 → G w1 w2 → G w w2) (mono : ∀ i v w w', G w0 w → G w w' → R i v w → R i v w')
    (h : invList P l.toArray G w0 R (fun a w => wpList P l.toArray (Only (Q .normal)) (l.drop n) a w) (l.take n) [] a0) :
    ∀ (fuel : Nat) (listed : Array Bool) (V : Nat → Value) (w : World), listed.size = l.length → Closed l.toArray listed → (∀ t, n ≤ t → listed.getD t false = false) → G w0 w → (∀ j, listed.getD j false = true → R j (V j) w) →
    (rem l.toArray listed).length = fuel → wpAny P .any l.toArray (Only (Q .normal)) fuel listed (fillD (fun j => listed.getD j false) V (l.take n) 0 a0) w := by
  unfold invB at hB
  simp only [Bool.and_eq_true, List.all_eq_true, List.mem_range] at hB
  obtain ⟨hsel, hB⟩ := hB
  have hB' : ∀ i oi, l.toArray[i]? = some oi → _ := fun i oi hi => by
    have := hB i (Array.getElem?_eq_some_iff.1 hi).1
    simp only [hi, Bool.and_eq_true, List.all_eq_true, List.mem_range] at this
    exact this
  have hback : ∀ i oi, l.toArray[i]? = some oi → ∀ e ∈ oi.after, Region.binds .any e = true → e.on < i := fun i oi hi e he hb => by
    have := (hB' i oi hi).1 e (by simpa using he)
    simpa [hb] using this
  have htr : Truth l.toArray (waits l.toArray.toList []) := waits_truth hback l.toArray.toList [] (fun j => by simp) (fun i t hi => by simp at hi)
  have hlen : (waits l.toArray.toList []).length = l.length := by rw [waits_length]; simp
  unfold endB at hE
  simp only [Bool.and_eq_true, decide_eq_true_eq, List.all_eq_true, List.mem_range, Bool.or_eq_true] at hE
  obtain ⟨⟨hn, hw⟩, hsq⟩ := hE
  have hnl : n ≤ l.length := by simpa using hn
  have htl : (l.take n).length = n := by rw [List.length_take]; omega
  have hend : ∀ (listed : Array Bool) (V : Nat → Value) (w : World), listed.size = l.length → (∀ i, i < n → listed.getD i false = true) → (∀ t, n ≤ t → listed.getD t false = false) → G w0 w → (∀ j, listed.getD j false = true → R j (V j) w) →
      wpAny P .any l.toArray (Only (Q .normal)) (l.length - n) listed (fillD (fun j => listed.getD j false) V (l.take n) 0 a0) w := fun listed V w hs hd hd2 hg hr => by
    have h1 := (inv_at V (l.take n) 0 a0 h).2 w hg fun j hj => hr j (hd j (by rw [htl] at hj; omega))
    rw [fill_congr _ (fun _ => true) V V (l.take n) 0 a0 fun j _ hj => ⟨hd j (by rw [htl] at hj; omega), fun _ => rfl⟩]
    have h2 := wpAny_of_seq (md := .any) (Q' := Only (Q .normal)) (l.drop n) n listed _ w (fun j => by simp [List.getElem?_drop]) (by
      rw [arr_cut hs hnl hd hd2]
      simpa using hsq) h1
    simpa using h2
  have hfro : ∀ (listed : Array Bool), Closed l.toArray listed → ∀ i, i ∈ Region.ready .any l.toArray listed → n ≤ i → ∀ k, k < n → listed.getD k false = true := fun listed hcl i hi hni k hk => by
    obtain ⟨hun, o, ho, hdone⟩ := mem_ready.1 hi
    have hlt : i < l.toArray.size := (Array.getElem?_eq_some_iff.1 ho).1
    have h1 := (hw i hlt).resolve_left (by omega) k hk
    exact htr.listed hcl i o k (by rw [hlen]; simpa using hlt) ho (fun e he hb => hdone e he hb) h1
  intro fuel
  induction fuel with
  | zero =>
    intro listed V w hs hcl hta hg hr hf
    have hnil : rem l.toArray listed = [] := List.eq_nil_of_length_eq_zero (by omega)
    have hd : ∀ i, i < l.length → listed.getD i false = true := fun i hi => by
      by_cases hd : listed.getD i false = true
      · exact hd
      · exfalso
        have : i ∈ rem l.toArray listed := mem_rem.2 ⟨by simpa using hi, by
          have : i < listed.size := by omega
          simp [this] at hd ⊢; exact hd⟩
        rw [hnil] at this
        cases this
    have hnn : n = l.length := by
      rcases Nat.lt_or_ge n l.length with h1 | h1
      · have h2 := hd n h1
        rw [hta n (Nat.le_refl n)] at h2
        cases h2
      · omega
    have := hend listed V w hs (fun i hi => hd i (by omega)) hta hg hr
    rw [show l.length - n = 0 by omega] at this
    exact this
  | succ fuel ih =>
    intro listed V w hs hcl hta hg hr hf
    by_cases hfull : ∀ i, i < n → listed.getD i false = true
    · have hrem : (rem l.toArray listed).length = l.length - n := by
        have e := arr_cut hs hnl hfull hta
        have e2 : rem l.toArray listed = (List.range l.length).filter fun j => decide (n ≤ j) := by
          unfold rem
          rw [show l.toArray.size = l.length by simp]
          refine List.filter_congr fun j hj => ?_
          have hj' : j < l.length := by simpa using hj
          rcases Nat.lt_or_ge j n with h1 | h1
          · rw [decide_eq_false (by omega)]
            have h3 := hfull j h1
            have h4 : j < listed.size := by omega
            simp [h4] at h3 ⊢
            exact h3
          · rw [decide_eq_true h1]
            have h3 := hta j h1
            have h4 : j < listed.size := by omega
            simp [h4] at h3 ⊢
            exact h3
        rw [e2]
        clear e e2 hf
        have : ∀ m, n ≤ m → ((List.range m).filter fun j => decide (n ≤ j)).length = m - n := by
          intro m hm
          obtain ⟨d, rfl⟩ : ∃ d, m = n + d := ⟨m - n, by omega⟩
          clear hm
          induction d with
          | zero =>
            rw [List.filter_eq_nil_iff.2 fun j hj => by have := List.mem_range.1 hj; simp; omega]
            simp
          | succ d ih => rw [← Nat.add_assoc, List.range_succ, List.filter_append, List.length_append, ih]; simp; omega
        exact this _ hnl
      have := hend listed V w hs hfull hta hg hr
      rw [← hrem, hf] at this
      exact this
    have hir : ∀ i, i ∈ Region.ready .any l.toArray listed → i < n := fun i hi => by
      rcases Nat.lt_or_ge i n with h1 | h1
      · exact h1
      · exact absurd (hfro listed hcl i hi h1) hfull
    refine ⟨fun hrd => ?_, fun i hi => ?_⟩
    · exfalso
      exact hfull fun i hi => rem_nil hback listed (by simpa using hs) hrd i (by rw [show l.toArray.size = l.length by simp]; omega)
    have hin := hir i hi
    obtain ⟨hun, o, ho, hdone⟩ := mem_ready.1 hi
    have hlt : i < l.toArray.size := (Array.getElem?_eq_some_iff.1 ho).1
    have hltl : i < l.length := by simpa using hlt
    have hlis : i < listed.size := by omega
    have hun' : listed.getD i false = false := by simp [hlis] at hun ⊢; exact hun
    have hol : (l.take n)[i]? = some o := by rw [List.getElem?_take_of_lt hin]; simpa using ho
    have hst := (inv_at V (l.take n) 0 a0 h).1 i o hol w hg fun j hj hn => by
      refine hr j ?_
      unfold needs at hn
      simp only [List.any_eq_true, Bool.and_eq_true, beq_iff_eq] at hn
      obtain ⟨e, he, hb, rfl⟩ := hn
      exact hdone e (by simpa using he) hb
    rw [Nat.zero_add] at hst
    have hsel' : ∀ cs b, o.op ≠ .select cs b := by
      intro cs b hc
      unfold Region.noSelect at hsel
      simp only [Array.all_eq_true] at hsel
      have := hsel i (by simpa using hlt)
      rw [(Array.getElem?_eq_some_iff.1 ho).2] at this
      rw [hc] at this
      simp at this
    have hsv := stepV_congr (a := fillD (fun j => listed.getD j false) V (l.take n) 0 a0) hsel' (by rw [fill_size, fill_size]) (fun d hd => ?_) (stepV_of_list hst)
    · refine stepV_wpOp ho ?_ hsv
      rintro v w' ⟨hgw, hR⟩
      rw [fill_take (fun j => listed.getD j false) V v (l.take n) 0 a0 i o hol (by rw [Nat.zero_add]; exact hun') fun q o' hq hne d hd1 hd2 => by
        have hqn : q < n := by have := (List.getElem?_eq_some_iff.1 hq).1; rw [htl] at this; exact this
        rw [List.getElem?_take_of_lt hqn] at hq
        have h1 := (hB' i o ho).2 q (by have := (List.getElem?_eq_some_iff.1 hq).1; simpa using this)
        have hq' : l.toArray[q]? = some o' := by simpa using hq
        simp [hne, hq', hd2, hd1] at h1]
      have hcl' := hcl.set hi
      have e : (fun j => if j = 0 + i then true else listed.getD j false) = fun j => (listed.setIfInBounds i true).getD j false := by
        funext j
        rw [Nat.zero_add]
        by_cases hj : j = i
        · subst hj; simp [hlis]
        · rw [if_neg hj, getD_set_ne false (fun e => hj e.symm)]
      rw [e]
      refine ih _ _ w' (by simpa using hs) hcl' (fun t ht => by rw [getD_set_ne false (by omega)]; exact hta t ht) (Gt _ _ _ hg hgw) (fun j hj => ?_) ?_
      · rw [Nat.zero_add]
        by_cases hji : j = i
        · subst hji; rw [if_pos rfl]; exact hR
        · rw [if_neg hji]
          rw [getD_set_ne false (fun e => hji e.symm)] at hj
          exact mono j _ w w' hg hgw (hr j hj)
      · obtain ⟨τ, ρ, e1, e2, _⟩ := rem_split (by simpa using hs) (mem_rem.2 ⟨hlt, hun⟩)
        rw [e2]
        rw [e1] at hf
        simp only [List.length_append, List.length_cons] at hf ⊢
        omega
    · refine fill_at _ _ V d (l.take n) 0 a0 a0 rfl rfl fun q o' hq hod => ?_
      rw [Nat.zero_add]
      have hqn : q < n := by have := (List.getElem?_eq_some_iff.1 hq).1; rw [htl] at this; exact this
      rw [List.getElem?_take_of_lt hqn] at hq
      have hq' : l.toArray[q]? = some o' := by simpa using hq
      have hql : q < l.length := (List.getElem?_eq_some_iff.1 hq).1
      by_cases hqi : q = i
      · subst hqi; rw [hun']; simp
      · have h1 := (hB' i o ho).2 q (by simpa using hql)
        have hdc : (o.looksAt l.toArray).contains d = true := by simpa using hd
        simp only [hqi, beq_iff_eq, hq', Option.bind_some, hod, hdc, Bool.not_true, Bool.false_or, Bool.or_eq_true, Bool.and_eq_true, decide_eq_true_eq, false_or] at h1
        rcases h1.2 with ⟨h2, h3⟩ | ⟨h2, h3⟩
        · rw [decide_eq_true h2]
          unfold needs at h3
          simp only [List.any_eq_true, Bool.and_eq_true, beq_iff_eq] at h3
          obtain ⟨e, he, hb, rfl⟩ := h3
          exact hdone e (by simpa using he) hb
        · rw [decide_eq_false (by omega)]
          by_cases hqd : listed.getD q false = true
          · exfalso
            have := htr.listed hcl q o' i (by omega) hq' (fun e he hb => hcl q o' hq' hqd e he hb) h3
            rw [hun'] at this
            cases this
          · simpa using hqd

theorem only_done {K : Act → World → Prop} {a : Act} {w : World} (h : K a w) : Only K .normal a w := h
/-- THE LAW. -/
theorem wp_region_end {id : Nat} {l : List Oper} {Q : Exit → Act → World → Prop} {a : Act} {w : World} (n : Nat) (G : World → World → Prop) (R : Nat → Value → World → Prop) (hm : P.follows .mixedOrders = true) (hB : invB l.toArray = true) (hE : endB l.toArray n = true)
    (Gr : ∀ w, G w w) (Gt : ∀ w w1 w2, G w w1 → G w1 w2 → G w w2) (mono : ∀ i v w1 w2, G w.drew w1 → G w1 w2 → R i v w1 → R i v w2)
    (h : invList P l.toArray G w.drew R (fun a w => wpList P l.toArray (Only (Q .normal)) (l.drop n) a w) (l.take n) [] a) : (Code.region id l.toArray true).wp P Q a w := by
  refine Code.wp_mono (Q := Only (Q .normal)) (fun e a w hq => by cases e <;> first | exact hq | exact hq.elim) ?_
  refine wp_region_any hm ?_
  have h0 := inv_end hB hE Gt mono h l.toArray.size (Array.replicate l.toArray.size false) (fun _ => undef) w.drew (by simp) (fun j oj _ hl => by rw [getD_replicate0] at hl; cases hl) (fun t _ => getD_replicate0 _ _) (Gr _) (fun j hj => by rw [getD_replicate0] at hj; cases hj) ?_
  · rw [fill_none] at h0
    · exact h0
    · intro j _; exact getD_replicate0 _ _
  · unfold rem
    rw [List.filter_eq_self.2 fun j hj => by have := List.mem_range.1 hj; simp at this; simp [this]]
    simp
end
end Go.Proofs.Ytkjfdaleamonaaa
