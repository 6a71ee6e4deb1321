/- A statement whose order Go leaves open: where a closed look shows that operations that may change places do not disturb each other, one walk in the order of the text serves every order. -/
import Derived.Orders
import Derived.Still
import Derived.Tactics
import Derived.KernelRfl
namespace Go.Proofs.Ytkjfdaleamonaaa
open Go

/-! ### What an operation's run hangs on -/
/-- Where it goes through, the world is as it was, and it goes through alike in every other world. -/
def CS {α : Type} (m : Sem α) : Prop := ∀ P w x w', m.run P w = .ok x w' → w' = w ∧ ∀ w2, m.run P w2 = .ok x w2
/-- Where it goes through, the world is as it was. -/
def RS {α : Type} (m : Sem α) : Prop := ∀ P w x w', m.run P w = .ok x w' → w' = w
/-- It never goes through. -/
def NS {α : Type} (m : Sem α) : Prop := ∀ P w x w', m.run P w ≠ .ok x w'

theorem CS.rs {α : Type} {m : Sem α} (h : CS m) : RS m := fun P w x w' e => (h P w x w' e).1
theorem NS.cs {α : Type} {m : Sem α} (h : NS m) : CS m := fun P w x w' e => (h P w x w' e).elim
theorem NS.rs {α : Type} {m : Sem α} (h : NS m) : RS m := h.cs.rs

theorem CS_pure {α : Type} (a : α) : CS (pure a : Sem α) := fun P w x w' e => by
  have : (.ok a w : Result α) = .ok x w' := e
  cases this; exact ⟨rfl, fun _ => rfl⟩
theorem CS_program : CS program := fun P w x w' e => by
  have : (.ok P w : Result Program) = .ok x w' := e
  cases this; exact ⟨rfl, fun _ => rfl⟩
theorem NS_stuck {α : Type} (s : String) : NS (stuck s : Sem α) := fun P w x w' e => by
  have : (.halt (.stuck s) w : Result α) = .ok x w' := e
  cases this
theorem NS_unsupported {α : Type} (u : Unsupported) : NS (unsupported u : Sem α) := fun P w x w' e => by
  have : (.halt (.unsupported u) w : Result α) = .ok x w' := e
  cases this
theorem NS_goPanic {α : Type} (v : Value) : NS (goPanic v : Sem α) := fun P w x w' e => by
  have : (.halt (.panic v) w : Result α) = .ok x w' := e
  cases this
theorem run_bind_ok {α β : Type} {m : Sem α} {f : α → Sem β} {P : Program} {w w' : World} {x : β} (e : (m >>= f).run P w = .ok x w') :
    ∃ a w1, m.run P w = .ok a w1 ∧ (f a).run P w1 = .ok x w' := by
  rw [Sem.run_bind] at e
  cases h : m.run P w with
  | ok a w1 => rw [h] at e; exact ⟨a, w1, rfl, e⟩
  | halt h1 w1 => rw [h] at e; simp [Result.andThen] at e
theorem run_bind_mk {α β : Type} {m : Sem α} {f : α → Sem β} {P : Program} {w w1 w' : World} {a : α} {x : β} (h : m.run P w = .ok a w1) (e : (f a).run P w1 = .ok x w') :
    (m >>= f).run P w = .ok x w' := by
  rw [Sem.run_bind, h]; exact e
theorem CS_bind {α β : Type} {m : Sem α} {f : α → Sem β} (h : CS m) (hf : ∀ a, CS (f a)) : CS (m >>= f) := fun P w x w' e => by
  obtain ⟨a, w1, h1, h2⟩ := run_bind_ok e
  obtain ⟨rfl, g1⟩ := h P w a w1 h1
  obtain ⟨rfl, g2⟩ := hf a P _ x w' h2
  exact ⟨rfl, fun w2 => run_bind_mk (g1 w2) (g2 w2)⟩
theorem RS_bind {α β : Type} {m : Sem α} {f : α → Sem β} (h : RS m) (hf : ∀ a, RS (f a)) : RS (m >>= f) := fun P w x w' e => by
  obtain ⟨a, w1, h1, h2⟩ := run_bind_ok e
  have := h P w a w1 h1
  subst this
  exact hf a P _ x w' h2
theorem NS_bind_left {α β : Type} {m : Sem α} {f : α → Sem β} (h : NS m) : NS (m >>= f) := fun P w x w' e => by
  obtain ⟨a, w1, h1, _⟩ := run_bind_ok e
  exact h P w a w1 h1
theorem NS_bind {α β : Type} {m : Sem α} {f : α → Sem β} (hf : ∀ a, NS (f a)) : NS (m >>= f) := fun P w x w' e => by
  obtain ⟨a, w1, _, h2⟩ := run_bind_ok e
  exact hf a P w1 x w' h2
theorem RS_load (a : Addr) (m : Mode) : RS (load a m) := fun P w x w' e => by
  unfold load at e
  simp only [Sem.run] at e
  split at e
  · cases e; rfl
  · split at e
    · cases e; rfl
    · cases e

theorem NS_runtimePanic {α : Type} (r : RuntimeError) : NS (runtimePanic r : Sem α) := by
  unfold runtimePanic
  refine NS_bind fun p => ?_
  cases r <;> simp only []
  case typeAssertion => exact NS_bind fun _ => NS_bind fun _ => NS_goPanic _
  case panicNil => exact NS_bind fun _ => NS_bind fun _ => NS_goPanic _
  all_goals exact NS_goPanic _
theorem NS_boundsPanic {α : Type} (k : IntKind) (x y : Int) (c : BoundsCode) : NS (boundsPanic k x y c : Sem α) := by
  unfold boundsPanic
  dsimp only
  split
  · exact NS_bind fun _ => NS_runtimePanic _
  · exact NS_bind fun _ => NS_runtimePanic _

theorem CS_ite {α : Type} {c : Prop} [Decidable c] {a b : Sem α} (ha : CS a) (hb : CS b) : CS (if c then a else b) := by split <;> assumption
theorem RS_ite {α : Type} {c : Prop} [Decidable c] {a b : Sem α} (ha : RS a) (hb : RS b) : RS (if c then a else b) := by split <;> assumption
theorem CS_typeInfo (t : TypeId) : CS (typeInfo t) := CS_bind CS_program fun p => by split <;> first | exact CS_pure _ | exact (NS_stuck _).cs
theorem CS_underlying (t : TypeId) : CS (underlying t) := CS_bind CS_program fun p => by split <;> first | exact CS_pure _ | exact (NS_stuck _).cs
theorem CS_sizeOf (t : TypeId) : CS (sizeOf t) := CS_bind (CS_typeInfo t) fun _ => CS_pure _
theorem CS_zeroValue (t : TypeId) : CS (zeroValue t) := CS_bind (CS_typeInfo t) fun _ => by split <;> first | exact CS_pure _ | exact (NS_unsupported _).cs
theorem CS_isAgg (t : TypeId) : CS (isAgg t) := CS_bind (CS_underlying t) fun d => by split <;> exact CS_pure _
theorem CS_part (t : TypeId) (cs : Array Value) (off : Nat) : CS (part t cs off) := by
  unfold part
  refine CS_bind (CS_isAgg t) fun b => ?_
  refine CS_ite (CS_bind (CS_sizeOf t) fun _ => CS_pure _) ?_
  split
  · exact CS_pure _
  · exact (NS_stuck _).cs
theorem CS_asIntOf (v : Value) : CS (asIntOf v) := by unfold asIntOf; split <;> first | exact CS_pure _ | exact (NS_unsupported _).cs | exact (NS_stuck _).cs
theorem CS_asBool (v : Value) : CS (asBool v) := by unfold asBool; split <;> first | exact CS_pure _ | exact (NS_stuck _).cs
theorem CS_asAgg (v : Value) : CS (asAgg v) := by unfold asAgg; split <;> first | exact CS_pure _ | exact (NS_stuck _).cs
theorem CS_asAddr (v : Value) : CS (asAddr v) := by unfold asAddr; split <;> first | exact CS_pure _ | exact (NS_runtimePanic _).cs | exact (NS_stuck _).cs
theorem CS_sureAddr (v : Value) : CS (Instr.sureAddr v) := by unfold Instr.sureAddr; split <;> first | exact CS_pure _ | exact (NS_stuck _).cs
theorem RS_shape (r : Nat) : RS (shape r) := fun P w x w' e => by
  have : (.ok (w.shape? r) w : Result _) = .ok x w' := e
  cases this; rfl
theorem RS_getObj (r : Nat) : RS (getObj r) := fun P w x w' e => by
  unfold getObj at e
  simp only [Sem.run] at e
  split at e
  · cases e
  · cases e; rfl
  · cases e
theorem RS_viewAt (r : Nat) : RS (viewAt r) := by
  unfold viewAt
  refine RS_bind (RS_shape r) fun s => ?_
  split
  · exact (CS_pure _).rs
  · refine RS_bind (RS_getObj r) fun o => ?_
    split <;> exact (CS_pure _).rs
theorem RS_noView (a : Addr) : RS (noView a) := by
  unfold noView
  refine RS_bind (RS_viewAt _) fun s => ?_
  split
  · exact (NS_unsupported _).rs
  · exact (CS_pure _).rs
theorem RS_byteOf (a : Addr) : RS (byteOf a) := by
  unfold byteOf
  dsimp only
  split
  · exact (CS_pure _).rs
  · refine RS_bind CS_program.rs fun p => RS_bind (RS_noView a) fun _ => RS_bind (RS_shape _) fun s => ?_
    split
    · split
      · exact (CS_pure _).rs
      · split
        · exact (CS_pure _).rs
        · exact (NS_stuck _).rs
    · exact (NS_stuck _).rs
theorem RS_partAt (a : Addr) (c b : Nat) : RS (partAt a c b) := by
  unfold partAt
  exact RS_bind (RS_byteOf a) fun x => RS_bind (RS_byteOf _) fun y => (CS_pure _).rs
theorem RS_fieldPlace (a : Addr) (f : Field) : RS (fieldPlace a f) := by
  unfold fieldPlace
  refine RS_bind (CS_sizeOf _).rs fun n => ?_
  split
  · exact RS_partAt _ _ _
  · exact (CS_pure _).rs
theorem RS_loadCellsFrom (a : Addr) : ∀ (n i : Nat) (acc : Array Value), RS (loadCellsFrom a i n acc)
  | 0, _, _ => (CS_pure _).rs
  | n + 1, i, _ => RS_bind (RS_load _ _) fun _ => RS_loadCellsFrom a n (i + 1) _
theorem RS_loadVar (t : TypeId) (a : Addr) : RS (loadVar t a) := by
  unfold loadVar
  refine RS_bind (CS_isAgg t).rs fun b => ?_
  split
  · refine RS_bind (CS_sizeOf t).rs fun n => RS_bind (RS_loadCellsFrom _ _ _ _) fun _ => (CS_pure _).rs
  · exact RS_load _ _
theorem RS_loadAt (t : TypeId) (v : Value) : RS (Instr.loadAt t v) := RS_bind (CS_sureAddr v).rs fun _ => RS_loadVar _ _
theorem RS_fieldAt (s : TypeId) (v : Value) (f : Nat) : RS (Instr.fieldAt s v f) := by
  unfold Instr.fieldAt
  refine RS_bind (CS_underlying s).rs fun d => ?_
  split
  · split
    · exact RS_bind (CS_sureAddr v).rs fun _ => RS_bind (RS_fieldPlace _ _) fun _ => (CS_pure _).rs
    · exact (NS_stuck _).rs
  · exact (NS_stuck _).rs
theorem CS_indexAt (t : TypeId) (x i : Value) : CS (Instr.indexAt t x i) := by
  unfold Instr.indexAt
  refine CS_bind (CS_asIntOf i) fun ki => ?_
  obtain ⟨k, i⟩ := ki
  dsimp only
  refine CS_bind (CS_underlying t) fun d => ?_
  split
  · refine CS_bind (CS_sureAddr _) fun q => CS_bind (CS_pure _) fun q => CS_bind (CS_underlying t) fun d2 => ?_
    split
    · split
      · exact CS_bind (CS_sizeOf _) fun _ => CS_pure _
      · split <;> (split <;> first | exact (NS_unsupported _).cs | exact (NS_boundsPanic _ _ _ _).cs)
    · exact (NS_boundsPanic _ _ _ _).cs
  · refine CS_bind (CS_pure _) fun q => CS_bind (CS_underlying t) fun d2 => ?_
    split
    · split
      · exact CS_bind (CS_sizeOf _) fun _ => CS_pure _
      · split <;> (split <;> first | exact (NS_unsupported _).cs | exact (NS_boundsPanic _ _ _ _).cs)
    · exact (NS_boundsPanic _ _ _ _).cs
  · exact (NS_bind_left (NS_stuck _)).cs
theorem CS_field (t : TypeId) (x : Value) (f : Nat) : CS (Instr.field t x f) := by
  unfold Instr.field
  refine CS_bind (CS_underlying t) fun d => ?_
  split
  · split
    · exact CS_bind (CS_asAgg x) fun _ => CS_part _ _ _
    · exact (NS_stuck _).cs
  · exact (NS_stuck _).cs
theorem CS_index (t : TypeId) (x i : Value) : CS (Instr.index t x i) := by
  unfold Instr.index
  refine CS_bind (CS_asIntOf i) fun ki => ?_
  obtain ⟨k, i⟩ := ki
  dsimp only
  refine CS_bind (CS_underlying t) fun d => ?_
  split
  · split
    · exact CS_bind (CS_sizeOf _) fun _ => CS_part _ _ _
    · exact (NS_boundsPanic _ _ _ _).cs
  · split
    · exact CS_pure _
    · exact (NS_boundsPanic _ _ _ _).cs
  · exact (NS_stuck _).cs
theorem CS_extract (x : Value) (i : Nat) : CS (Instr.extract x i) := by
  unfold Instr.extract
  split
  · split
    · exact CS_pure _
    · exact (NS_stuck _).cs
  · exact (NS_stuck _).cs
theorem CS_listMapM {α β : Type} (f : α → Sem β) (hf : ∀ a, CS (f a)) : ∀ l : List α, CS (l.mapM f)
  | [] => by rw [List.mapM_nil]; exact CS_pure _
  | a :: l => by rw [List.mapM_cons]; exact CS_bind (hf a) fun _ => CS_bind (CS_listMapM f hf l) fun _ => CS_pure _
theorem CS_build (t : TypeId) (parts : Array (Nat × Value)) : CS (Instr.build t parts) := by
  unfold Instr.build
  refine CS_bind (CS_zeroValue t) fun z => CS_bind (CS_underlying t) fun d => ?_
  split
  · refine CS_bind ?_ fun places => ?_
    · rw [Array.mapM_eq_mapM_toList]
      exact CS_bind (CS_listMapM _ (fun f => CS_bind (CS_sizeOf _) fun _ => CS_pure _) _) fun _ => CS_pure _
    · split
      · exact CS_pure _
      · exact (NS_stuck _).cs
  · refine CS_bind (CS_sizeOf _) fun n => ?_
    split
    · exact CS_pure _
    · exact (NS_stuck _).cs
  · exact (NS_stuck _).cs

theorem CS_intArith (op : BinOp) (k : IntKind) (x y : Int) : CS (Op.intArith op k x y) := by
  unfold Op.intArith; split <;> first | exact CS_pure _ | exact (NS_stuck _).cs
theorem CS_intDiv (op : BinOp) (k : IntKind) (x y : Int) : CS (Op.intDiv op k x y) := by
  unfold Op.intDiv
  refine CS_ite (NS_runtimePanic _).cs ?_
  split <;> first | exact CS_pure _ | exact (NS_stuck _).cs
theorem CS_intBits (op : BinOp) (k : IntKind) (x y : Int) : CS (Op.intBits op k x y) := by
  unfold Op.intBits; dsimp only; split <;> first | exact CS_pure _ | exact (NS_stuck _).cs
theorem CS_intCmp (op : BinOp) (x y : Int) : CS (Op.intCmp op x y) := by
  unfold Op.intCmp; split <;> first | exact CS_pure _ | exact (NS_stuck _).cs
theorem CS_shift (op : BinOp) (k : IntKind) (x : Int) (yk : IntKind) (y : Int) : CS (Op.shift op k x yk y) := by
  unfold Op.shift
  refine CS_ite (NS_runtimePanic _).cs ?_
  dsimp only
  split <;> first | exact CS_pure _ | exact (NS_stuck _).cs
theorem CS_stringOp (op : BinOp) (x y : ByteArray) : CS (Op.stringOp op x y) := by
  unfold Op.stringOp
  dsimp only
  split
  · exact CS_ite (NS_unsupported _).cs (CS_pure _)
  all_goals first | exact CS_pure _ | exact (NS_stuck _).cs
theorem CS_unary (op : UnOp) (x : Value) : CS (Op.unary op x) := by
  unfold Op.unary
  split <;> first | exact CS_intArith _ _ _ _ | exact CS_intBits _ _ _ _ | exact CS_pure _ | exact (NS_unsupported _).cs | exact (NS_stuck _).cs
theorem CS_sliceBound (x : Value) (y : Nat) (c : BoundsCode) : CS (Instr.sliceBound x y c) := by
  unfold Instr.sliceBound
  refine CS_bind (CS_asIntOf x) fun q => ?_
  obtain ⟨k, i⟩ := q
  exact CS_ite (CS_pure _) (NS_boundsPanic _ _ _ _).cs
theorem CS_sliceBounds (b : Bool) (len cap : Nat) (lo hi mx : Option Value) : CS (Instr.sliceBounds b len cap lo hi mx) := by
  unfold Instr.sliceBounds
  cases mx <;> cases hi <;> cases lo <;> simp only [] <;>
    repeat' (first | exact CS_pure _ | exact (NS_stuck _).cs | exact (NS_bind_left (NS_stuck _)).cs | exact CS_sliceBound _ _ _ | (refine CS_bind ?_ fun _ => ?_))
theorem CS_slice (t : TypeId) (x : Value) (lo hi mx : Option Value) : CS (Instr.slice t x lo hi mx) := by
  unfold Instr.slice
  refine CS_bind (CS_underlying t) fun d => ?_
  split
  · split
    · exact (NS_bind_left (NS_stuck _)).cs
    · exact CS_bind (CS_sliceBounds _ _ _ _ _ _) fun _ => CS_pure _
  · exact CS_bind (CS_sliceBounds _ _ _ _ _ _) fun _ => CS_bind (CS_sizeOf _) fun _ => CS_pure _
  · refine CS_bind (CS_asAddr _) fun _ => CS_bind (CS_underlying _) fun _ => ?_
    split
    · exact CS_bind (CS_sliceBounds _ _ _ _ _ _) fun _ => CS_bind (CS_sizeOf _) fun _ => CS_pure _
    · exact (NS_stuck _).cs
  · exact (NS_stuck _).cs
theorem CS_sliceAt (t : TypeId) (x : Value) (lo hi mx : Option Value) : CS (Instr.sliceAt t x lo hi mx) := by
  unfold Instr.sliceAt
  refine CS_bind (CS_underlying t) fun d => ?_
  split
  · exact CS_bind (CS_sureAddr _) fun _ => CS_bind (CS_sliceBounds _ _ _ _ _ _) fun _ => CS_bind (CS_sizeOf _) fun _ => CS_pure _
  · exact CS_slice _ _ _ _ _

/-- Numbers, strings, truth values, slices: what is reckoned of them hangs on no world. -/
def gv : Value → Bool
  | .int _ _ | .string _ | .bool _ | .slice _ _ _ => true
  | _ => false
def gp : Value → Bool
  | .pointer (some _) => true
  | v => gv v

theorem CS_equalIn (n : Nat) (t : TypeId) (x y : Value) (hx : gv x = true) (hy : gv y = true) : CS (Op.equalIn n t x y) := by
  cases n with
  | zero => exact (NS_unsupported _).cs
  | succ n =>
    unfold Op.equalIn
    refine CS_bind (CS_underlying t) fun d => ?_
    split <;> first
      | exact CS_pure _
      | exact CS_ite (CS_pure _) (NS_stuck _).cs
      | exact (NS_stuck _).cs
      | (simp [gv] at hx; done)
      | (simp [gv] at hy; done)
theorem CS_binOp (op : BinOp) (t : TypeId) (x y : Value) (hx : gv x = true) (hy : gv y = true) : CS (binOp op t x y) := by
  have heq := CS_equalIn Op.maxDepth t x y hx hy
  have e1 : CS (do pure (.bool (← Op.equal t x y)) : Sem Value) := CS_bind heq fun _ => CS_pure _
  have e2 : CS (do pure (.bool (!(← Op.equal t x y))) : Sem Value) := CS_bind heq fun _ => CS_pure _
  unfold binOp
  cases x <;> simp [gv] at hx <;> cases y <;> simp [gv] at hy <;> cases op <;> dsimp only <;> first
    | exact e1
    | exact e2
    | exact CS_shift _ _ _ _ _
    | exact CS_stringOp _ _ _
    | exact (NS_stuck _).cs
    | (refine CS_ite (NS_stuck _).cs ?_; first | exact CS_intArith _ _ _ _ | exact CS_intDiv _ _ _ _ | exact CS_intBits _ _ _ _ | exact CS_intCmp _ _ _)
theorem CS_eqGuard (op : BinOp) (t : TypeId) (x y : Operand) (a b : Value) (ha : gv a = true) : CS (eqGuard op t x y a b) := by
  unfold eqGuard
  cases a <;> simp [gv] at ha <;> cases op <;> first | exact CS_pure _ | (cases b <;> exact CS_pure _)
theorem CS_min2 (x y : Value) (hx : gv x = true) (hy : gv y = true) : CS (Builtin.min2 x y) := by
  cases x <;> simp [gv] at hx <;> cases y <;> simp [gv] at hy <;> unfold Builtin.min2 <;> first
    | exact CS_pure _
    | exact CS_bind (CS_stringOp _ _ _) fun _ => CS_bind (CS_asBool _) fun _ => CS_pure _
    | exact (NS_stuck _).cs
theorem CS_max2 (x y : Value) (hx : gv x = true) (hy : gv y = true) : CS (Builtin.max2 x y) := by
  cases x <;> simp [gv] at hx <;> cases y <;> simp [gv] at hy <;> unfold Builtin.max2 <;> first
    | exact CS_pure _
    | exact CS_bind (CS_stringOp _ _ _) fun _ => CS_bind (CS_asBool _) fun _ => CS_pure _
    | exact (NS_stuck _).cs
theorem CS_len (ts : Array TypeId) (t : TypeId) (args : Array Value) (h : ∀ v, args[0]? = some v → gv v = true) : CS (Builtin.len_ ts t args) := by
  unfold Builtin.len_
  split
  · rename_i u x h2
    have hx := h x (Prod.mk.inj h2).2
    clear h2
    refine CS_bind (CS_underlying _) fun d => ?_
    cases x <;> simp [gv] at hx <;> split <;> first
      | exact CS_pure _
      | exact (NS_stuck _).cs
      | contradiction
      | (refine CS_bind (CS_underlying _) fun d => ?_; split <;> first | exact CS_pure _ | exact (NS_stuck _).cs)
  · exact (NS_stuck _).cs
theorem CS_cap (ts : Array TypeId) (t : TypeId) (args : Array Value) (h : ∀ v, args[0]? = some v → gv v = true) : CS (Builtin.cap_ ts t args) := by
  unfold Builtin.cap_
  split
  · rename_i u x h2
    have hx := h x (Prod.mk.inj h2).2
    clear h2
    refine CS_bind (CS_underlying _) fun d => ?_
    cases x <;> simp [gv] at hx <;> split <;> first
      | exact CS_pure _
      | exact (NS_stuck _).cs
      | contradiction
      | (refine CS_bind (CS_underlying _) fun d => ?_; split <;> first | exact CS_pure _ | exact (NS_stuck _).cs)
  · exact (NS_stuck _).cs

/-- What goes through yields a value, leaves the world, and goes through alike in every world. -/
def CV (m : Sem Next) : Prop := ∀ P w x w', m.run P w = .ok x w' → (∃ v, x = .value v) ∧ w' = w ∧ ∀ w2, m.run P w2 = .ok x w2
def RV (m : Sem Next) : Prop := ∀ P w x w', m.run P w = .ok x w' → (∃ v, x = .value v) ∧ w' = w
theorem CV.rv {m : Sem Next} (h : CV m) : RV m := fun P w x w' e => ⟨(h P w x w' e).1, (h P w x w' e).2.1⟩
theorem CV_of {s : Sem Value} (h : CS s) : CV (do pure (.value (← s))) := fun P w x w' e => by
  obtain ⟨a, w1, h1, h2⟩ := run_bind_ok e
  have h3 : (.ok (.value a) w1 : Result Next) = .ok x w' := h2
  cases h3
  obtain ⟨rfl, g⟩ := h P w a _ h1
  exact ⟨⟨a, rfl⟩, rfl, fun w2 => run_bind_mk (g w2) rfl⟩
theorem RV_of {s : Sem Value} (h : RS s) : RV (do pure (.value (← s))) := fun P w x w' e => by
  obtain ⟨a, w1, h1, h2⟩ := run_bind_ok e
  have h3 : (.ok (.value a) w1 : Result Next) = .ok x w' := h2
  cases h3
  exact ⟨⟨a, rfl⟩, h P w a _ h1⟩
theorem CV_pure (v : Value) : CV (pure (.value v)) := fun P w x w' e => by
  have h3 : (.ok (.value v) w : Result Next) = .ok x w' := e
  cases h3
  exact ⟨⟨v, rfl⟩, rfl, fun _ => rfl⟩
theorem CV_bind {α : Type} {s : Sem α} {f : α → Sem Next} (h : CS s) (hf : ∀ a, CV (f a)) : CV (s >>= f) := fun P w x w' e => by
  obtain ⟨a, w1, h1, h2⟩ := run_bind_ok e
  obtain ⟨rfl, g1⟩ := h P w a w1 h1
  obtain ⟨hv, rfl, g2⟩ := hf a P _ x w' h2
  exact ⟨hv, rfl, fun w2 => run_bind_mk (g1 w2) (g2 w2)⟩
theorem NS.cv {m : Sem Next} (h : NS m) : CV m := fun P w x w' e => (h P w x w' e).elim

/-- The kinds of operations: 0 hangs on no world; 1 only reads; 2 anything. -/
def kindOf : Op → Nat
  | .move _ | .assign _ | .pick .. | .indexAddr .. | .field .. | .index .. | .extract .. | .build .. | .unOp .. | .slice .. | .binOp .. | .nilCheck _ => 0
  | .call c => match c.callee with
    | .builtin .len | .builtin .cap => if c.args.size = 1 then 0 else 2
    | .builtin .min | .builtin .max => if c.args.size = 2 then 0 else 2
    | _ => 2
  | .load .. | .fieldAddr .. => 1
  | _ => 2
/-- Which operations are asked of what their operands hold. -/
def asksVals : Op → Bool
  | .binOp .. | .nilCheck _ | .call _ => true
  | _ => false
def goodVals (ρ : Operand → Value) : Op → Bool
  | .binOp _ _ x y _ => gv (ρ x) && gv (ρ y)
  | .nilCheck x => gp (ρ x)
  | .call c => match c.callee with
    | .builtin .len | .builtin .cap | .builtin .min | .builtin .max => c.args.all fun x => gv (ρ x)
    | _ => true
  | _ => true

theorem RV_kind1 {ρ : Operand → Value} {o : Oper} (h : kindOf o.op = 1) : RV (execOp ρ o) := by
  obtain ⟨dst, op, type, pos, after, guard⟩ := o
  cases op <;> simp [kindOf] at h <;> unfold execOp
  case load t a => exact RV_of (RS_loadAt _ _)
  case fieldAddr t x f => exact RV_of (RS_fieldAt _ _ _)
  case call c => split at h <;> (try split at h) <;> simp at h

theorem all2 {p : Operand → Bool} {args : Array Operand} (h : args.all p = true) : ∀ x ∈ args.toList, p x = true := fun x hx => by
  rw [Array.all_eq_true_iff_forall_mem] at h
  exact h x (by simpa using hx)
theorem CV_call (ρ : Operand → Value) (c : Call) (t : TypeId) (hk : kindOf (.call c) = 0) (hg : goodVals ρ (.call c) = true) :
    CV (do let d ← resolve ρ c t; invoke d.target d.args) := by
  obtain ⟨callee, args, ts⟩ := c
  cases callee with
  | value f => simp [kindOf] at hk
  | invoke r m => simp [kindOf] at hk
  | builtin b =>
    have hres : ∀ (s : Sem Next), (do let d ← (pure { target := .builtin b ts t (args.map fun | .const _ => true | _ => false), args := args.map ρ } : Sem Deferred); invoke d.target d.args) = s → CV s → CV (do let d ← (pure { target := .builtin b ts t (args.map fun | .const _ => true | _ => false), args := args.map ρ } : Sem Deferred); invoke d.target d.args) := fun s e h => e ▸ h
    show CV (do let d ← (pure { target := .builtin b ts t (args.map fun | .const _ => true | _ => false), args := args.map ρ } : Sem Deferred); invoke d.target d.args)
    have hone : ∀ v, (args.map ρ)[0]? = some v → (args.all fun x => gv (ρ x)) = true → gv v = true := fun v hv ha => by
      rw [Array.getElem?_map] at hv
      cases h0 : args[0]? with
      | none => simp [h0] at hv
      | some x =>
        simp [h0] at hv
        subst hv
        exact all2 (p := fun x => gv (ρ x)) ha x (by simpa using Array.mem_of_getElem? h0)
    have htwo : args.size = 2 → (args.all fun x => gv (ρ x)) = true → ∃ u v, (args.map ρ).toList = [u, v] ∧ gv u = true ∧ gv v = true := fun hs ha => by
      obtain ⟨l⟩ := args
      match l, hs with
      | [x, y], _ =>
        have := all2 (p := fun x => gv (ρ x)) ha
        exact ⟨ρ x, ρ y, by simp, this x (by simp), this y (by simp)⟩
    cases b <;> simp [kindOf] at hk <;> simp only [goodVals] at hg
    case len => exact CV_of (CS_len ts t _ fun v hv => hone v hv hg)
    case cap => exact CV_of (CS_cap ts t _ fun v hv => hone v hv hg)
    case min =>
      obtain ⟨u, v, huv, hu, hv⟩ := htwo hk hg
      refine CV_of (s := Builtin.min_ ts t (args.map ρ)) ?_
      unfold Builtin.min_
      rw [huv]
      simp only [List.foldlM_cons, List.foldlM_nil]
      exact CS_bind (CS_min2 _ _ hu hv) fun _ => CS_pure _
    case max =>
      obtain ⟨u, v, huv, hu, hv⟩ := htwo hk hg
      refine CV_of (s := Builtin.max_ ts t (args.map ρ)) ?_
      unfold Builtin.max_
      rw [huv]
      simp only [List.foldlM_cons, List.foldlM_nil]
      exact CS_bind (CS_max2 _ _ hu hv) fun _ => CS_pure _

theorem CV_kind0 {ρ : Operand → Value} {o : Oper} (h : kindOf o.op = 0) (hg : goodVals ρ o.op = true) : CV (execOp ρ o) := by
  obtain ⟨dst, op, type, pos, after, guard⟩ := o
  cases op
  case call c => exact CV_call ρ c type h hg
  case nilCheck x =>
    unfold execOp
    simp only [goodVals] at hg
    dsimp only
    generalize ρ x = v at hg ⊢
    cases v <;> first | exact CV_pure _ | (simp [gp, gv] at hg; done) | (rename_i p; cases p <;> first | exact CV_pure _ | (simp [gp, gv] at hg; done))
  case binOp op t x y u =>
    unfold execOp
    simp only [goodVals, Bool.and_eq_true] at hg
    exact CV_of (CS_bind (CS_eqGuard _ _ _ _ _ _ hg.1) fun _ => CS_binOp _ _ _ _ hg.1 hg.2)
  case move x => exact CV_pure _
  case assign x => exact CV_pure _
  case pick c a b =>
    unfold execOp
    exact CV_bind (CS_asBool _) fun _ => CV_pure _
  case indexAddr t x i => exact CV_of (CS_indexAt _ _ _)
  case field t x f => exact CV_of (CS_field _ _ _)
  case index t x i => exact CV_of (CS_index _ _ _)
  case extract x i => exact CV_of (CS_extract _ _)
  case build t ps => exact CV_of (CS_build _ _)
  case unOp op t x => exact CV_of (CS_unary _ _)
  case slice t x lo hi mx => exact CV_of (CS_sliceAt _ _ _ _ _)
  all_goals simp [kindOf] at h
end Go.Proofs.Ytkjfdaleamonaaa
