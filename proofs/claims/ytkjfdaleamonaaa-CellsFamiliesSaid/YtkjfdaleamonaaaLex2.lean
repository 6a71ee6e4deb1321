/- The law for a region that draws its order: one walk in the order of the text. -/
import Derived.Test.YtkjfdaleamonaaaLex
namespace Go.Proofs.Ytkjfdaleamonaaa
open Go

/-- What holds at the end of a region that goes through; nothing else ends it. -/
def Only (K : Act → World → Prop) : Exit → Act → World → Prop
  | .normal, a, w => K a w
  | _, _, _ => False
theorem Only.lets {K : Act → World → Prop} : ¬ LetsOut (Only K) := fun ⟨_, _, h⟩ => h

section
variable {P : Program} {ops : Array Oper} {K : Act → World → Prop}

/-- One operation, its operands asked. -/
def stepG (P : Program) (ops : Array Oper) (i : Nat) (next : Act → World → Prop) (a : Act) (w : World) : Prop :=
  match ops[i]? with
  | none => False
  | some o => if Region.wanted o (yielded ops a.tmps) then goodVals a.eval o.op = true ∧ o.wp P a w next (Only fun _ _ => False) else next (a.put o.dst undef) w

theorem wp_only {o : Oper} {a : Act} {w : World} {next : Act → World → Prop} {L : Act → World → Prop} (h : o.wp P a w next (Only L)) : o.wp P a w next (Only fun _ _ => False) := by
  unfold Oper.wp at *
  generalize (execOp a.eval o).run P w = r at *
  cases r with
  | ok n w' =>
    cases n <;> simp only [Oper.upon] at h ⊢
    case enter f args =>
      refine Calls.mono h fun e w'' he => ?_
      cases e with
      | returned v => exact he
      | panicked c => exact he
      | outgrown => exact (Only.lets he).elim
    all_goals exact h
  | halt x w' =>
    cases x <;> simp only [Oper.upon] at h ⊢
    case panic v => exact h
theorem only_wp {o : Oper} {a : Act} {w : World} {next : Act → World → Prop} {L : Act → World → Prop} (h : o.wp P a w next (Only fun _ _ => False)) : o.wp P a w next (Only L) := by
  unfold Oper.wp at *
  generalize (execOp a.eval o).run P w = r at *
  cases r with
  | ok n w' =>
    cases n <;> simp only [Oper.upon] at h ⊢
    case enter f args =>
      refine Calls.mono h fun e w'' he => ?_
      cases e with
      | returned v => exact he
      | panicked c => exact he
      | outgrown => exact (Only.lets he).elim
    all_goals exact h
  | halt x w' =>
    cases x <;> simp only [Oper.upon] at h ⊢
    case panic v => exact h

theorem stepG_mono {i : Nat} {n n' : Act → World → Prop} {a : Act} {w : World} (hn : ∀ a w, n a w → n' a w) (h : stepG P ops i n a w) : stepG P ops i n' a w := by
  unfold stepG at *
  split
  · rename_i ho; simp only [ho] at h
  · rename_i o ho
    simp only [ho] at h
    split
    · rename_i hw; simp only [hw, if_true] at h; exact ⟨h.1, Oper.wp_mono hn h.2⟩
    · rename_i hw; simp only [hw] at h; exact hn _ _ h

theorem stepG_wpOp {i : Nat} {n : Act → World → Prop} {a : Act} {w : World} (h : stepG P ops i n a w) : wpOp P ops (Only K) i n a w := by
  unfold stepG at h
  unfold wpOp
  split
  · rename_i ho; simp only [ho] at h
  · rename_i o ho
    simp only [ho] at h
    split
    · rename_i hw; simp only [hw, if_true] at h; exact .inl (only_wp h.2)
    · rename_i hw; simp only [hw] at h; exact h

/-- An operation that goes through comes somewhere. -/
theorem wp_out {o : Oper} {a : Act} {w : World} {next : Act → World → Prop} (h : o.wp P a w next (Only fun _ _ => False)) :
    ∃ a1 w1 v, next a1 w1 ∧ a1.tmps = (a.put o.dst v).tmps := by
  unfold Oper.wp at h
  generalize (execOp a.eval o).run P w = r at h
  cases r with
  | ok n w' =>
    cases n <;> simp only [Oper.upon] at h
    case value v => exact ⟨_, _, v, h, rfl⟩
    case skip => exact ⟨_, _, undef, h, rfl⟩
    case defer d => exact ⟨_, _, undef, h, by cases o.dst <;> rfl⟩
    case enter f args =>
      obtain ⟨e, w'', fr, hR, _⟩ := h []
      cases e with
      | returned v => exact ⟨_, _, v, hR, rfl⟩
      | panicked c => exact hR.elim
      | outgrown => exact (Only.lets hR).elim
    case row row args =>
      obtain ⟨v, w'', hR, _⟩ := h (Frame.enter P 0 #[] .normal) []
      exact ⟨_, _, v, hR, rfl⟩
  | halt x w' =>
    cases x <;> simp only [Oper.upon] at h
    case panic v => exact h.elim

theorem eval_of_tmps {a b : Act} (h : a.tmps = b.tmps) : a.eval = b.eval := by
  funext x; cases x <;> simp [Act.eval, h]

theorem good_congr {ρ ρ' : Operand → Value} (op : Op) (h : ∀ x ∈ op.operands, ρ x = ρ' x) : goodVals ρ op = goodVals ρ' op := by
  cases op <;> simp only [goodVals]
  case binOp b t x y u => rw [h x (by simp [Op.operands]), h y (by simp [Op.operands])]
  case nilCheck x => rw [h x (by simp [Op.operands])]
  case call c =>
    have hall : (c.args.all fun x => gv (ρ x)) = (c.args.all fun x => gv (ρ' x)) := by
      rw [Bool.eq_iff_iff, Array.all_eq_true_iff_forall_mem, Array.all_eq_true_iff_forall_mem]
      exact ⟨fun g x hx => by rw [← h x (by simp [Op.operands, Call.operands, hx])]; exact g x hx, fun g x hx => by rw [h x (by simp [Op.operands, Call.operands, hx])]; exact g x hx⟩
    split <;> first | rfl | exact hall
theorem good_put {o : Oper} {a : Act} {dst : Option Tmp} {v : Value} (h : ∀ d, dst = some d → d ∉ o.looksAt ops) : goodVals (a.put dst v).eval o.op = goodVals a.eval o.op :=
  good_congr o.op fun x hx => Act.eval_put fun d hd hxd => h d hd (by
    subst hxd
    exact List.mem_append_left _ (List.mem_filterMap.2 ⟨.tmp d, by simpa using hx, rfl⟩))

/-- What an operation of kind 0 or 1 yields. -/
theorem stepG_const {i : Nat} {o : Oper} (ho : ops[i]? = some o) (hk : kindOf o.op = 0) {n : Act → World → Prop} {a : Act} {w : World} (h : stepG P ops i n a w) :
    ∃ v, Yields P ops o v a ∧ n (a.put o.dst v) w := by
  unfold stepG at h
  simp only [ho] at h
  by_cases hw : Region.wanted o (yielded ops a.tmps) = true
  · simp only [hw, if_true] at h
    obtain ⟨hg, h⟩ := h
    unfold Oper.wp at h
    have hc := CV_kind0 hk hg
    cases hr : (execOp a.eval o).run P w with
    | ok x w' =>
      obtain ⟨⟨v, rfl⟩, rfl, hall⟩ := hc P w x w' hr
      rw [hr] at h
      exact ⟨v, .inl ⟨hw, hall⟩, h⟩
    | halt x w' => rw [hr] at h; cases x <;> simp only [Oper.upon] at h; exact h.elim
  · simp only [hw] at h
    exact ⟨undef, .inr ⟨by simpa using hw, rfl⟩, h⟩
theorem stepG_reads {i : Nat} {o : Oper} (ho : ops[i]? = some o) (hk : kindOf o.op ≤ 1) {n : Act → World → Prop} {a : Act} {w : World} (h : stepG P ops i n a w) :
    ∃ v, YieldsAt P ops w o v a ∧ n (a.put o.dst v) w := by
  unfold stepG at h
  simp only [ho] at h
  by_cases hw : Region.wanted o (yielded ops a.tmps) = true
  · simp only [hw, if_true] at h
    obtain ⟨hg, h⟩ := h
    unfold Oper.wp at h
    have hc : RV (execOp a.eval o) := by
      rcases Nat.lt_or_ge (kindOf o.op) 1 with h0 | h1
      · exact (CV_kind0 (by omega) hg).rv
      · exact RV_kind1 (by omega)
    cases hr : (execOp a.eval o).run P w with
    | ok x w' =>
      obtain ⟨⟨v, rfl⟩, rfl⟩ := hc P w x w' hr
      rw [hr] at h
      exact ⟨v, .inl ⟨hw, .inl hr⟩, h⟩
    | halt x w' => rw [hr] at h; cases x <;> simp only [Oper.upon] at h; exact h.elim
  · simp only [hw] at h
    exact ⟨undef, .inr ⟨by simpa using hw, rfl⟩, h⟩

/-- One operation's place behind another's, where it yields whatever the other does. -/
theorem stepG_in {i : Nat} {oi ot : Oper} {v : Value} (hi : ops[i]? = some oi) (hap : oi.apart ops ot = true)
    (hsi : ∀ cs b, oi.op ≠ .select cs b) (hst : ∀ cs b, ot.op ≠ .select cs b) {N M : Act → World → Prop} {a : Act} {w : World}
    (hN : ∀ a1 w1, N a1 w1 → Yields P ops ot v a1 → M (a1.put ot.dst v) w1)
    (hy : Yields P ops ot v a) (h : stepG P ops i N a w) : stepG P ops i M (a.put ot.dst v) w := by
  obtain ⟨h1, h2, h3⟩ := Oper.apart_spec hap
  have h2' : ∀ d, ot.dst = some d → oi.dst ≠ some d := fun d hd he => h2 d he hd
  have keep : ∀ (a : Act), Yields P ops ot v a → ∀ u, Yields P ops ot v (a.put oi.dst u) := fun a hy u =>
    hy.of_same (execOp_put ot hst a oi.dst u h1) (wanted_put ot a oi.dst u h1)
  have keepD : ∀ d, Yields P ops ot v { a with defers := d :: a.defers } := fun d => hy.of_same rfl rfl
  unfold stepG at *
  simp only [hi] at *
  rw [wanted_put oi a ot.dst v h3]
  split
  · rename_i hw
    simp only [hw, if_true] at h
    obtain ⟨hg, h⟩ := h
    refine ⟨by rw [good_put (ops := ops) h3]; exact hg, ?_⟩
    unfold Oper.wp at *
    rw [execOp_put oi hsi a ot.dst v h3]
    generalize (execOp a.eval oi).run P w = r at *
    cases r with
    | ok n w' =>
      cases n <;> simp only [Oper.upon] at h ⊢
      case value u => rw [Act.put_comm a v u h2']; exact hN _ _ h (keep a hy u)
      case skip => rw [Act.put_comm a v undef h2']; exact hN _ _ h (keep a hy undef)
      case defer d =>
        rw [Act.put_defers, Act.put_comm _ v undef h2']
        exact hN _ _ h (keep _ (keepD d) undef)
      case enter f args =>
        refine Calls.mono h fun e w'' he => ?_
        cases e with
        | returned u => dsimp only at he ⊢; rw [Act.put_comm a v u h2']; exact hN _ _ he (keep a hy u)
        | panicked c => exact he
        | outgrown => exact he
      case row row args => exact Rows.mono h fun u w'' he => by rw [Act.put_comm a v u h2']; exact hN _ _ he (keep a hy u)
    | halt x w' =>
      cases x <;> simp only [Oper.upon] at h ⊢
      case panic u => exact h
  · rename_i hw
    simp only [hw] at h
    rw [Act.put_comm a v undef h2']
    exact hN _ _ h (keep a hy undef)

def Yields1 (P : Program) (ops : Array Oper) (w : World) (o : Oper) (v : Value) (a : Act) : Prop :=
  (Region.wanted o (yielded ops a.tmps) = true ∧ (execOp a.eval o).run P w = .ok (.value v) w) ∨ (Region.wanted o (yielded ops a.tmps) = false ∧ v = undef)
theorem Yields_det {o : Oper} {v v' : Value} {a : Act} (h : Yields P ops o v a) (h' : Yields P ops o v' a) (w0 : World) : v = v' := by
  rcases h with ⟨hw, hv⟩ | ⟨hw, rfl⟩ <;> rcases h' with ⟨hw', hv'⟩ | ⟨hw', rfl⟩
  · have := (hv w0).symm.trans (hv' w0)
    cases this; rfl
  · rw [hw] at hw'; cases hw'
  · rw [hw] at hw'; cases hw'
  · rfl

/-- What a step asks of its operands. -/
def GoodAt (ops : Array Oper) (o : Oper) (a : Act) : Prop := Region.wanted o (yielded ops a.tmps) = true → goodVals a.eval o.op = true
theorem stepG_good {i : Nat} {o : Oper} (hi : ops[i]? = some o) {N : Act → World → Prop} {a : Act} {w : World} (h : stepG P ops i N a w) : GoodAt ops o a := by
  intro hw
  unfold stepG at h
  simp only [hi, hw, if_true] at h
  exact h.1
theorem GoodAt_put {o : Oper} {a : Act} {dst : Option Tmp} {v : Value} (h : ∀ d, dst = some d → d ∉ o.looksAt ops) : GoodAt ops o (a.put dst v) ↔ GoodAt ops o a := by
  unfold GoodAt
  rw [wanted_put o a dst v h, good_put (ops := ops) h]
theorem GoodAt_tmps {o : Oper} {a b : Act} (h : a.tmps = b.tmps) : GoodAt ops o a ↔ GoodAt ops o b := by
  unfold GoodAt
  rw [h, eval_of_tmps h]
theorem stepG_of_const {i : Nat} {o : Oper} {v : Value} {a : Act} {w : World} (hi : ops[i]? = some o) (hy : Yields P ops o v a) (hg : GoodAt ops o a)
    {N : Act → World → Prop} (h : N (a.put o.dst v) w) : stepG P ops i N a w := by
  unfold stepG
  simp only [hi]
  rcases hy with ⟨hw, hv⟩ | ⟨hw, rfl⟩
  · simp only [hw, if_true]; exact ⟨hg hw, by unfold Oper.wp; rw [hv]; exact h⟩
  · simp only [hw, Bool.false_eq_true, if_false]; exact h

theorem stepG_of_one {i : Nat} {o : Oper} {v : Value} {a : Act} {w : World} (hi : ops[i]? = some o) (hy : Yields1 P ops w o v a) (hg : GoodAt ops o a)
    {N : Act → World → Prop} (h : N (a.put o.dst v) w) : stepG P ops i N a w := by
  unfold stepG
  simp only [hi]
  rcases hy with ⟨hw, hv⟩ | ⟨hw, rfl⟩
  · simp only [hw, if_true]; exact ⟨hg hw, by unfold Oper.wp; rw [hv]; exact h⟩
  · simp only [hw, Bool.false_eq_true, if_false]; exact h

/-- One that yields in every world may come behind. -/
theorem stepG_behind {t : Nat} {oi ot : Oper} {v : Value} (ht : ops[t]? = some ot) (hap : oi.apart ops ot = true)
    (hsi : ∀ cs b, oi.op ≠ .select cs b) (hst : ∀ cs b, ot.op ≠ .select cs b) {N : Act → World → Prop} {a : Act} {w : World}
    (hy : Yields P ops oi v a) (hg : GoodAt ops oi a) (h : stepG P ops t N (a.put oi.dst v) w) :
    stepG P ops t (fun a' w' => (Yields P ops oi v a' ∧ GoodAt ops oi a') ∧ N (a'.put oi.dst v) w') a w := by
  obtain ⟨h1, h2, h3⟩ := Oper.apart_spec hap
  have keep : ∀ (a : Act), Yields P ops oi v a ∧ GoodAt ops oi a → ∀ u, Yields P ops oi v (a.put ot.dst u) ∧ GoodAt ops oi (a.put ot.dst u) := fun a hy u =>
    ⟨hy.1.of_same (execOp_put oi hsi a ot.dst u h3) (wanted_put oi a ot.dst u h3), (GoodAt_put h3).2 hy.2⟩
  have keepD : ∀ d, Yields P ops oi v { a with defers := d :: a.defers } ∧ GoodAt ops oi { a with defers := d :: a.defers } := fun d => ⟨hy.of_same rfl rfl, hg⟩
  unfold stepG at *
  simp only [ht] at *
  rw [wanted_put ot a oi.dst v h1] at h
  split
  · rename_i hw
    simp only [hw, if_true] at h
    obtain ⟨hgt, h⟩ := h
    refine ⟨by rw [good_put (ops := ops) h1] at hgt; exact hgt, ?_⟩
    unfold Oper.wp at *
    rw [execOp_put ot hst a oi.dst v h1] at h
    generalize (execOp a.eval ot).run P w = r at *
    cases r with
    | ok n w' =>
      cases n <;> simp only [Oper.upon] at h ⊢
      case value u => exact ⟨keep a ⟨hy, hg⟩ u, by rw [← Act.put_comm a v u h2]; exact h⟩
      case skip => exact ⟨keep a ⟨hy, hg⟩ _, by rw [← Act.put_comm a v undef h2]; exact h⟩
      case defer d =>
        refine ⟨keep _ (keepD d) _, ?_⟩
        rw [← Act.put_comm _ v undef h2, ← Act.put_defers]
        exact h
      case enter f args =>
        refine Calls.mono h fun e w'' he => ?_
        cases e with
        | returned u => exact ⟨keep a ⟨hy, hg⟩ u, by rw [← Act.put_comm a v u h2]; exact he⟩
        | panicked c => exact he
        | outgrown => exact he
      case row row args => exact Rows.mono h fun u w'' he => ⟨keep a ⟨hy, hg⟩ u, by rw [← Act.put_comm a v u h2]; exact he⟩
    | halt x w' =>
      cases x <;> simp only [Oper.upon] at h ⊢
      case panic u => exact h
  · rename_i hw
    simp only [hw] at h
    exact ⟨keep a ⟨hy, hg⟩ _, by rw [← Act.put_comm a v undef h2]; exact h⟩

theorem apart_symm {x y : Oper} (h : x.apart ops y = true) : (∀ d, y.dst = some d → x.dst ≠ some d) := fun d hd he => (Oper.apart_spec h).2.1 d he hd

theorem stepG_swap {i t : Nat} {oi ot : Oper} (hi : ops[i]? = some oi) (ht : ops[t]? = some ot) (hap : oi.apart ops ot = true)
    (hsi : ∀ cs b, oi.op ≠ .select cs b) (hst : ∀ cs b, ot.op ≠ .select cs b)
    (hk : kindOf oi.op = 0 ∨ kindOf ot.op = 0 ∨ (kindOf oi.op ≤ 1 ∧ kindOf ot.op ≤ 1)) {N : Act → World → Prop} {a : Act} {w : World}
    (h : stepG P ops i (stepG P ops t N) a w) : stepG P ops t (stepG P ops i N) a w := by
  obtain ⟨h1, h2, h3⟩ := Oper.apart_spec hap
  have hgi := stepG_good hi h
  rcases hk with hk | hk | ⟨hk1, hk2⟩
  · obtain ⟨v, hy, h4⟩ := stepG_const hi hk h
    exact stepG_mono (fun a' w' h5 => stepG_of_const hi h5.1.1 h5.1.2 h5.2) (stepG_behind ht hap hsi hst hy hgi h4)
  · have hout : ∃ v, Yields P ops ot v a ∧ GoodAt ops ot a := by
      have hex : ∃ a1 w1 u, stepG P ops t N a1 w1 ∧ a1.tmps = (a.put oi.dst u).tmps := by
        have h' := h
        unfold stepG at h'
        simp only [hi] at h'
        by_cases hw : Region.wanted oi (yielded ops a.tmps) = true
        · simp only [hw, if_true] at h'
          exact wp_out h'.2
        · simp only [hw] at h'
          exact ⟨_, _, undef, h', rfl⟩
      obtain ⟨a1, w1, u, h5, htm⟩ := hex
      obtain ⟨v, hy, _⟩ := stepG_const ht hk h5
      refine ⟨v, hy.of_same ?_ ?_, ?_⟩
      · rw [eval_of_tmps htm, execOp_put ot hst a oi.dst u h1]
      · rw [htm, wanted_put ot a oi.dst u h1]
      · exact (GoodAt_put h1).1 ((GoodAt_tmps htm).1 (stepG_good ht h5))
    obtain ⟨v, hy, hg⟩ := hout
    refine stepG_of_const ht hy hg ?_
    refine stepG_in hi hap hsi hst (fun a1 w1 h5 hy1 => ?_) hy h
    obtain ⟨v', hy', h6⟩ := stepG_const ht hk h5
    rw [Yields_det hy1 hy' w1]
    exact h6
  · obtain ⟨v, hy, h4⟩ := stepG_reads hi hk1 h
    obtain ⟨u, hu, h5⟩ := stepG_reads ht hk2 h4
    have hgt := (GoodAt_put h1).1 (stepG_good ht h4)
    have hu' : YieldsAt P ops w ot u a := hu.of_same (execOp_put ot hst a oi.dst v h1).symm (wanted_put ot a oi.dst v h1).symm
    have hy' : YieldsAt P ops w oi v (a.put ot.dst u) := hy.of_same (execOp_put oi hsi a ot.dst u h3) (wanted_put oi a ot.dst u h3)
    have noEnter : ∀ {o : Oper} {a : Act}, kindOf o.op ≤ 1 → GoodAt ops o a → ∀ x, YieldsAt P ops w o x a → Yields1 P ops w o x a := fun {o a} hk hg x hx => by
      rcases hx with ⟨hw, hv | ⟨hv, rfl⟩ | ⟨f, args, hv, hc⟩⟩ | ⟨hw, rfl⟩
      · exact .inl ⟨hw, hv⟩
      · have hr : RV (execOp a.eval o) := by
          rcases Nat.lt_or_ge (kindOf o.op) 1 with h0 | h1
          · exact (CV_kind0 (by omega) (hg hw)).rv
          · exact RV_kind1 (by omega)
        obtain ⟨⟨v, hv2⟩, _⟩ := hr P w _ w hv
        cases hv2
      · have hr : RV (execOp a.eval o) := by
          rcases Nat.lt_or_ge (kindOf o.op) 1 with h0 | h1
          · exact (CV_kind0 (by omega) (hg hw)).rv
          · exact RV_kind1 (by omega)
        obtain ⟨⟨v, hv2⟩, _⟩ := hr P w _ w hv
        cases hv2
      · exact .inr ⟨hw, rfl⟩
    refine stepG_of_one ht (noEnter hk2 hgt u hu') hgt ?_
    refine stepG_of_one hi (noEnter hk1 ((GoodAt_put h3).2 hgi) v hy') ((GoodAt_put h3).2 hgi) ?_
    rw [← Act.put_comm a v u h2]
    exact h5
end
end Go.Proofs.Ytkjfdaleamonaaa
