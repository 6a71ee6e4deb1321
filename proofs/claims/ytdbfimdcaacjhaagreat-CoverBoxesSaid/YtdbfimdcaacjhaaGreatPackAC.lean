/- Joined: Lex, Lex2, Lex3, Kit, Kit2, WdM, WdP, Lex4, Lex5, Lex6: contracts and plain laws, each with its own heading below. -/
import Derived.Orders
import Derived.Still
import Derived.Tactics
import Derived.KernelRfl
import Derived.WalkKit
import Derived.WalkSpells
import Derived.WalkLawsBesides
import Derived.Handy
import Derived.Lib.Hide
import Derived.BigQuiet
import Derived.Deep.QuietTactic
import Derived.Deep.AppendLies
import Derived.Deep.LoopGhost
import Derived.Sort.Row
import Derived.Test.YtdbfimdcaacjhaaGreatProg
import Derived.Lib.Mul64
import Derived.Shelf.Bits.Mul64
import Derived.Laws.Bits64b
import Derived.Laws.Externs
import Derived.Deep.RegionWith
/- A statement whose order Go leaves open: where a closed look shows that operations that may change places do not disturb each other, one walk in the order of the text serves every order. -/
namespace Go.Proofs.YtdbfimdcaacjhaaGreat
open Go

/-! ### What an operation's run hangs on -/
/-- Where it goes through, the world is as it was, and it goes through alike in every other world. -/
def CS {α : Type} (m : Sem α) : Prop := ∀ P w x w', m.run P w = .ok x w' → w' = w ∧ ∀ w2, m.run P w2 = .ok x w2
/-- Where it goes through, the world is as it was. -/
def RS {α : Type} (m : Sem α) : Prop := ∀ P w x w', m.run P w = .ok x w' → w' = w
/-- It never goes through. -/
def NS {α : Type} (m : Sem α) : Prop := ∀ P w x w', m.run P w ≠ .ok x w'

theorem CS.rs {α : Type} {m : Sem α} (h : CS m) : RS m := fun P w x w' e => (h P w x w' e).1
theorem NS.cs {α : Type} {m : Sem α} (h : NS m) : CS m := fun P w x w' e => (h P w x w' e).elim
theorem NS.rs {α : Type} {m : Sem α} (h : NS m) : RS m := h.cs.rs

theorem CS_pure {α : Type} (a : α) : CS (pure a : Sem α) := fun P w x w' e => by
  have : (.ok a w : Result α) = .ok x w' := e
  cases this; exact ⟨rfl, fun _ => rfl⟩
theorem CS_program : CS program := fun P w x w' e => by
  have : (.ok P w : Result Program) = .ok x w' := e
  cases this; exact ⟨rfl, fun _ => rfl⟩
theorem NS_stuck {α : Type} (s : String) : NS (stuck s : Sem α) := fun P w x w' e => by
  have : (.halt (.stuck s) w : Result α) = .ok x w' := e
  cases this
theorem NS_unsupported {α : Type} (u : Unsupported) : NS (unsupported u : Sem α) := fun P w x w' e => by
  have : (.halt (.unsupported u) w : Result α) = .ok x w' := e
  cases this
theorem NS_goPanic {α : Type} (v : Value) : NS (goPanic v : Sem α) := fun P w x w' e => by
  have : (.halt (.panic v) w : Result α) = .ok x w' := e
  cases this
theorem run_bind_ok {α β : Type} {m : Sem α} {f : α → Sem β} {P : Program} {w w' : World} {x : β} (e : (m >>= f).run P w = .ok x w') :
    ∃ a w1, m.run P w = .ok a w1 ∧ (f a).run P w1 = .ok x w' := by
  rw [Sem.run_bind] at e
  cases h : m.run P w with
  | ok a w1 => rw [h] at e; exact ⟨a, w1, rfl, e⟩
  | halt h1 w1 => rw [h] at e; simp [Result.andThen] at e
theorem run_bind_mk {α β : Type} {m : Sem α} {f : α → Sem β} {P : Program} {w w1 w' : World} {a : α} {x : β} (h : m.run P w = .ok a w1) (e : (f a).run P w1 = .ok x w') :
    (m >>= f).run P w = .ok x w' := by
  rw [Sem.run_bind, h]; exact e
theorem CS_bind {α β : Type} {m : Sem α} {f : α → Sem β} (h : CS m) (hf : ∀ a, CS (f a)) : CS (m >>= f) := fun P w x w' e => by
  obtain ⟨a, w1, h1, h2⟩ := run_bind_ok e
  obtain ⟨rfl, g1⟩ := h P w a w1 h1
  obtain ⟨rfl, g2⟩ := hf a P _ x w' h2
  exact ⟨rfl, fun w2 => run_bind_mk (g1 w2) (g2 w2)⟩
theorem RS_bind {α β : Type} {m : Sem α} {f : α → Sem β} (h : RS m) (hf : ∀ a, RS (f a)) : RS (m >>= f) := fun P w x w' e => by
  obtain ⟨a, w1, h1, h2⟩ := run_bind_ok e
  have := h P w a w1 h1
  subst this
  exact hf a P _ x w' h2
theorem NS_bind_left {α β : Type} {m : Sem α} {f : α → Sem β} (h : NS m) : NS (m >>= f) := fun P w x w' e => by
  obtain ⟨a, w1, h1, _⟩ := run_bind_ok e
  exact h P w a w1 h1
theorem NS_bind {α β : Type} {m : Sem α} {f : α → Sem β} (hf : ∀ a, NS (f a)) : NS (m >>= f) := fun P w x w' e => by
  obtain ⟨a, w1, _, h2⟩ := run_bind_ok e
  exact hf a P w1 x w' h2
theorem RS_load (a : Addr) (m : Mode) : RS (load a m) := fun P w x w' e => by
  unfold load at e
  simp only [Sem.run] at e
  split at e
  · cases e; rfl
  · split at e
    · cases e; rfl
    · cases e

theorem NS_runtimePanic {α : Type} (r : RuntimeError) : NS (runtimePanic r : Sem α) := by
  unfold runtimePanic
  refine NS_bind fun p => ?_
  cases r <;> simp only []
  case typeAssertion => exact NS_bind fun _ => NS_bind fun _ => NS_goPanic _
  case panicNil => exact NS_bind fun _ => NS_bind fun _ => NS_goPanic _
  all_goals exact NS_goPanic _
theorem NS_boundsPanic {α : Type} (k : IntKind) (x y : Int) (c : BoundsCode) : NS (boundsPanic k x y c : Sem α) := by
  unfold boundsPanic
  dsimp only
  split
  · exact NS_bind fun _ => NS_runtimePanic _
  · exact NS_bind fun _ => NS_runtimePanic _

theorem CS_ite {α : Type} {c : Prop} [Decidable c] {a b : Sem α} (ha : CS a) (hb : CS b) : CS (if c then a else b) := by split <;> assumption
theorem RS_ite {α : Type} {c : Prop} [Decidable c] {a b : Sem α} (ha : RS a) (hb : RS b) : RS (if c then a else b) := by split <;> assumption
theorem CS_typeInfo (t : TypeId) : CS (typeInfo t) := CS_bind CS_program fun p => by split <;> first | exact CS_pure _ | exact (NS_stuck _).cs
theorem CS_underlying (t : TypeId) : CS (underlying t) := CS_bind CS_program fun p => by split <;> first | exact CS_pure _ | exact (NS_stuck _).cs
theorem CS_sizeOf (t : TypeId) : CS (sizeOf t) := CS_bind (CS_typeInfo t) fun _ => CS_pure _
theorem CS_zeroValue (t : TypeId) : CS (zeroValue t) := CS_bind (CS_typeInfo t) fun _ => by split <;> first | exact CS_pure _ | exact (NS_unsupported _).cs
theorem CS_isAgg (t : TypeId) : CS (isAgg t) := CS_bind (CS_underlying t) fun d => by split <;> exact CS_pure _
theorem CS_part (t : TypeId) (cs : Array Value) (off : Nat) : CS (part t cs off) := by
  unfold part
  refine CS_bind (CS_isAgg t) fun b => ?_
  refine CS_ite (CS_bind (CS_sizeOf t) fun _ => CS_pure _) ?_
  split
  · exact CS_pure _
  · exact (NS_stuck _).cs
theorem CS_asIntOf (v : Value) : CS (asIntOf v) := by unfold asIntOf; split <;> first | exact CS_pure _ | exact (NS_unsupported _).cs | exact (NS_stuck _).cs
theorem CS_asBool (v : Value) : CS (asBool v) := by unfold asBool; split <;> first | exact CS_pure _ | exact (NS_stuck _).cs
theorem CS_asAgg (v : Value) : CS (asAgg v) := by unfold asAgg; split <;> first | exact CS_pure _ | exact (NS_stuck _).cs
theorem CS_asAddr (v : Value) : CS (asAddr v) := by unfold asAddr; split <;> first | exact CS_pure _ | exact (NS_runtimePanic _).cs | exact (NS_stuck _).cs
theorem CS_sureAddr (v : Value) : CS (Instr.sureAddr v) := by unfold Instr.sureAddr; split <;> first | exact CS_pure _ | exact (NS_stuck _).cs
theorem RS_shape (r : Nat) : RS (shape r) := fun P w x w' e => by
  have : (.ok (w.shape? r) w : Result _) = .ok x w' := e
  cases this; rfl
theorem RS_getObj (r : Nat) : RS (getObj r) := fun P w x w' e => by
  unfold getObj at e
  simp only [Sem.run] at e
  split at e
  · cases e
  · cases e; rfl
  · cases e
theorem RS_viewAt (r : Nat) : RS (viewAt r) := by
  unfold viewAt
  refine RS_bind (RS_shape r) fun s => ?_
  split
  · exact (CS_pure _).rs
  · refine RS_bind (RS_getObj r) fun o => ?_
    split <;> exact (CS_pure _).rs
theorem RS_noView (a : Addr) : RS (noView a) := by
  unfold noView
  refine RS_bind (RS_viewAt _) fun s => ?_
  split
  · exact (NS_unsupported _).rs
  · exact (CS_pure _).rs
theorem RS_byteOf (a : Addr) : RS (byteOf a) := by
  unfold byteOf
  dsimp only
  split
  · exact (CS_pure _).rs
  · refine RS_bind CS_program.rs fun p => RS_bind (RS_noView a) fun _ => RS_bind (RS_shape _) fun s => ?_
    split
    · split
      · exact (CS_pure _).rs
      · split
        · exact (CS_pure _).rs
        · exact (NS_stuck _).rs
    · exact (NS_stuck _).rs
theorem RS_partAt (a : Addr) (c b : Nat) : RS (partAt a c b) := by
  unfold partAt
  exact RS_bind (RS_byteOf a) fun x => RS_bind (RS_byteOf _) fun y => (CS_pure _).rs
theorem RS_fieldPlace (a : Addr) (f : Field) : RS (fieldPlace a f) := by
  unfold fieldPlace
  refine RS_bind (CS_sizeOf _).rs fun n => ?_
  split
  · exact RS_partAt _ _ _
  · exact (CS_pure _).rs
theorem RS_loadCellsFrom (a : Addr) : ∀ (n i : Nat) (acc : Array Value), RS (loadCellsFrom a i n acc)
  | 0, _, _ => (CS_pure _).rs
  | n + 1, i, _ => RS_bind (RS_load _ _) fun _ => RS_loadCellsFrom a n (i + 1) _
theorem RS_loadVar (t : TypeId) (a : Addr) : RS (loadVar t a) := by
  unfold loadVar
  refine RS_bind (CS_isAgg t).rs fun b => ?_
  split
  · refine RS_bind (CS_sizeOf t).rs fun n => RS_bind (RS_loadCellsFrom _ _ _ _) fun _ => (CS_pure _).rs
  · exact RS_load _ _
theorem RS_loadAt (t : TypeId) (v : Value) : RS (Instr.loadAt t v) := RS_bind (CS_sureAddr v).rs fun _ => RS_loadVar _ _
theorem RS_fieldAt (s : TypeId) (v : Value) (f : Nat) : RS (Instr.fieldAt s v f) := by
  unfold Instr.fieldAt
  refine RS_bind (CS_underlying s).rs fun d => ?_
  split
  · split
    · exact RS_bind (CS_sureAddr v).rs fun _ => RS_bind (RS_fieldPlace _ _) fun _ => (CS_pure _).rs
    · exact (NS_stuck _).rs
  · exact (NS_stuck _).rs
theorem CS_indexAt (t : TypeId) (x i : Value) : CS (Instr.indexAt t x i) := by
  unfold Instr.indexAt
  refine CS_bind (CS_asIntOf i) fun ki => ?_
  obtain ⟨k, i⟩ := ki
  dsimp only
  refine CS_bind (CS_underlying t) fun d => ?_
  split
  · refine CS_bind (CS_sureAddr _) fun q => CS_bind (CS_pure _) fun q => CS_bind (CS_underlying t) fun d2 => ?_
    split
    · split
      · exact CS_bind (CS_sizeOf _) fun _ => CS_pure _
      · split <;> (split <;> first | exact (NS_unsupported _).cs | exact (NS_boundsPanic _ _ _ _).cs)
    · exact (NS_boundsPanic _ _ _ _).cs
  · refine CS_bind (CS_pure _) fun q => CS_bind (CS_underlying t) fun d2 => ?_
    split
    · split
      · exact CS_bind (CS_sizeOf _) fun _ => CS_pure _
      · split <;> (split <;> first | exact (NS_unsupported _).cs | exact (NS_boundsPanic _ _ _ _).cs)
    · exact (NS_boundsPanic _ _ _ _).cs
  · exact (NS_bind_left (NS_stuck _)).cs
theorem CS_field (t : TypeId) (x : Value) (f : Nat) : CS (Instr.field t x f) := by
  unfold Instr.field
  refine CS_bind (CS_underlying t) fun d => ?_
  split
  · split
    · exact CS_bind (CS_asAgg x) fun _ => CS_part _ _ _
    · exact (NS_stuck _).cs
  · exact (NS_stuck _).cs
theorem CS_index (t : TypeId) (x i : Value) : CS (Instr.index t x i) := by
  unfold Instr.index
  refine CS_bind (CS_asIntOf i) fun ki => ?_
  obtain ⟨k, i⟩ := ki
  dsimp only
  refine CS_bind (CS_underlying t) fun d => ?_
  split
  · split
    · exact CS_bind (CS_sizeOf _) fun _ => CS_part _ _ _
    · exact (NS_boundsPanic _ _ _ _).cs
  · split
    · exact CS_pure _
    · exact (NS_boundsPanic _ _ _ _).cs
  · exact (NS_stuck _).cs
theorem CS_extract (x : Value) (i : Nat) : CS (Instr.extract x i) := by
  unfold Instr.extract
  split
  · split
    · exact CS_pure _
    · exact (NS_stuck _).cs
  · exact (NS_stuck _).cs
theorem CS_listMapM {α β : Type} (f : α → Sem β) (hf : ∀ a, CS (f a)) : ∀ l : List α, CS (l.mapM f)
  | [] => by rw [List.mapM_nil]; exact CS_pure _
  | a :: l => by rw [List.mapM_cons]; exact CS_bind (hf a) fun _ => CS_bind (CS_listMapM f hf l) fun _ => CS_pure _
theorem CS_build (t : TypeId) (parts : Array (Nat × Value)) : CS (Instr.build t parts) := by
  unfold Instr.build
  refine CS_bind (CS_zeroValue t) fun z => CS_bind (CS_underlying t) fun d => ?_
  split
  · refine CS_bind ?_ fun places => ?_
    · rw [Array.mapM_eq_mapM_toList]
      exact CS_bind (CS_listMapM _ (fun f => CS_bind (CS_sizeOf _) fun _ => CS_pure _) _) fun _ => CS_pure _
    · split
      · exact CS_pure _
      · exact (NS_stuck _).cs
  · refine CS_bind (CS_sizeOf _) fun n => ?_
    split
    · exact CS_pure _
    · exact (NS_stuck _).cs
  · exact (NS_stuck _).cs

theorem CS_intArith (op : BinOp) (k : IntKind) (x y : Int) : CS (Op.intArith op k x y) := by
  unfold Op.intArith; split <;> first | exact CS_pure _ | exact (NS_stuck _).cs
theorem CS_intDiv (op : BinOp) (k : IntKind) (x y : Int) : CS (Op.intDiv op k x y) := by
  unfold Op.intDiv
  refine CS_ite (NS_runtimePanic _).cs ?_
  split <;> first | exact CS_pure _ | exact (NS_stuck _).cs
theorem CS_intBits (op : BinOp) (k : IntKind) (x y : Int) : CS (Op.intBits op k x y) := by
  unfold Op.intBits; dsimp only; split <;> first | exact CS_pure _ | exact (NS_stuck _).cs
theorem CS_intCmp (op : BinOp) (x y : Int) : CS (Op.intCmp op x y) := by
  unfold Op.intCmp; split <;> first | exact CS_pure _ | exact (NS_stuck _).cs
theorem CS_shift (op : BinOp) (k : IntKind) (x : Int) (yk : IntKind) (y : Int) : CS (Op.shift op k x yk y) := by
  unfold Op.shift
  refine CS_ite (NS_runtimePanic _).cs ?_
  dsimp only
  split <;> first | exact CS_pure _ | exact (NS_stuck _).cs
theorem CS_stringOp (op : BinOp) (x y : ByteArray) : CS (Op.stringOp op x y) := by
  unfold Op.stringOp
  dsimp only
  split
  · exact CS_ite (NS_unsupported _).cs (CS_pure _)
  all_goals first | exact CS_pure _ | exact (NS_stuck _).cs
theorem CS_unary (op : UnOp) (x : Value) : CS (Op.unary op x) := by
  unfold Op.unary
  split <;> first | exact CS_intArith _ _ _ _ | exact CS_intBits _ _ _ _ | exact CS_pure _ | exact (NS_unsupported _).cs | exact (NS_stuck _).cs
theorem CS_sliceBound (x : Value) (y : Nat) (c : BoundsCode) : CS (Instr.sliceBound x y c) := by
  unfold Instr.sliceBound
  refine CS_bind (CS_asIntOf x) fun q => ?_
  obtain ⟨k, i⟩ := q
  exact CS_ite (CS_pure _) (NS_boundsPanic _ _ _ _).cs
theorem CS_sliceBounds (b : Bool) (len cap : Nat) (lo hi mx : Option Value) : CS (Instr.sliceBounds b len cap lo hi mx) := by
  unfold Instr.sliceBounds
  cases mx <;> cases hi <;> cases lo <;> simp only [] <;>
    repeat' (first | exact CS_pure _ | exact (NS_stuck _).cs | exact (NS_bind_left (NS_stuck _)).cs | exact CS_sliceBound _ _ _ | (refine CS_bind ?_ fun _ => ?_))
theorem CS_slice (t : TypeId) (x : Value) (lo hi mx : Option Value) : CS (Instr.slice t x lo hi mx) := by
  unfold Instr.slice
  refine CS_bind (CS_underlying t) fun d => ?_
  split
  · split
    · exact (NS_bind_left (NS_stuck _)).cs
    · exact CS_bind (CS_sliceBounds _ _ _ _ _ _) fun _ => CS_pure _
  · exact CS_bind (CS_sliceBounds _ _ _ _ _ _) fun _ => CS_bind (CS_sizeOf _) fun _ => CS_pure _
  · refine CS_bind (CS_asAddr _) fun _ => CS_bind (CS_underlying _) fun _ => ?_
    split
    · exact CS_bind (CS_sliceBounds _ _ _ _ _ _) fun _ => CS_bind (CS_sizeOf _) fun _ => CS_pure _
    · exact (NS_stuck _).cs
  · exact (NS_stuck _).cs
theorem CS_sliceAt (t : TypeId) (x : Value) (lo hi mx : Option Value) : CS (Instr.sliceAt t x lo hi mx) := by
  unfold Instr.sliceAt
  refine CS_bind (CS_underlying t) fun d => ?_
  split
  · exact CS_bind (CS_sureAddr _) fun _ => CS_bind (CS_sliceBounds _ _ _ _ _ _) fun _ => CS_bind (CS_sizeOf _) fun _ => CS_pure _
  · exact CS_slice _ _ _ _ _

/-- Numbers, strings, truth values, slices: what is reckoned of them hangs on no world. -/
def gv : Value → Bool
  | .int _ _ | .string _ | .bool _ | .slice _ _ _ => true
  | _ => false
def gp : Value → Bool
  | .pointer (some _) => true
  | v => gv v

theorem CS_equalIn (n : Nat) (t : TypeId) (x y : Value) (hx : gv x = true) (hy : gv y = true) : CS (Op.equalIn n t x y) := by
  cases n with
  | zero => exact (NS_unsupported _).cs
  | succ n =>
    unfold Op.equalIn
    refine CS_bind (CS_underlying t) fun d => ?_
    split <;> first
      | exact CS_pure _
      | exact CS_ite (CS_pure _) (NS_stuck _).cs
      | exact (NS_stuck _).cs
      | (simp [gv] at hx; done)
      | (simp [gv] at hy; done)
theorem CS_binOp (op : BinOp) (t : TypeId) (x y : Value) (hx : gv x = true) (hy : gv y = true) : CS (binOp op t x y) := by
  have heq := CS_equalIn Op.maxDepth t x y hx hy
  have e1 : CS (do pure (.bool (← Op.equal t x y)) : Sem Value) := CS_bind heq fun _ => CS_pure _
  have e2 : CS (do pure (.bool (!(← Op.equal t x y))) : Sem Value) := CS_bind heq fun _ => CS_pure _
  unfold binOp
  cases x <;> simp [gv] at hx <;> cases y <;> simp [gv] at hy <;> cases op <;> dsimp only <;> first
    | exact e1
    | exact e2
    | exact CS_shift _ _ _ _ _
    | exact CS_stringOp _ _ _
    | exact (NS_stuck _).cs
    | (refine CS_ite (NS_stuck _).cs ?_; first | exact CS_intArith _ _ _ _ | exact CS_intDiv _ _ _ _ | exact CS_intBits _ _ _ _ | exact CS_intCmp _ _ _)
theorem CS_eqGuard (op : BinOp) (t : TypeId) (x y : Operand) (a b : Value) (ha : gv a = true) : CS (eqGuard op t x y a b) := by
  unfold eqGuard
  cases a <;> simp [gv] at ha <;> cases op <;> first | exact CS_pure _ | (cases b <;> exact CS_pure _)
theorem CS_min2 (x y : Value) (hx : gv x = true) (hy : gv y = true) : CS (Builtin.min2 x y) := by
  cases x <;> simp [gv] at hx <;> cases y <;> simp [gv] at hy <;> unfold Builtin.min2 <;> first
    | exact CS_pure _
    | exact CS_bind (CS_stringOp _ _ _) fun _ => CS_bind (CS_asBool _) fun _ => CS_pure _
    | exact (NS_stuck _).cs
theorem CS_max2 (x y : Value) (hx : gv x = true) (hy : gv y = true) : CS (Builtin.max2 x y) := by
  cases x <;> simp [gv] at hx <;> cases y <;> simp [gv] at hy <;> unfold Builtin.max2 <;> first
    | exact CS_pure _
    | exact CS_bind (CS_stringOp _ _ _) fun _ => CS_bind (CS_asBool _) fun _ => CS_pure _
    | exact (NS_stuck _).cs
theorem CS_len (ts : Array TypeId) (t : TypeId) (args : Array Value) (h : ∀ v, args[0]? = some v → gv v = true) : CS (Builtin.len_ ts t args) := by
  unfold Builtin.len_
  split
  · rename_i u x h2
    have hx := h x (Prod.mk.inj h2).2
    clear h2
    refine CS_bind (CS_underlying _) fun d => ?_
    cases x <;> simp [gv] at hx <;> split <;> first
      | exact CS_pure _
      | exact (NS_stuck _).cs
      | contradiction
      | (refine CS_bind (CS_underlying _) fun d => ?_; split <;> first | exact CS_pure _ | exact (NS_stuck _).cs)
  · exact (NS_stuck _).cs
theorem CS_cap (ts : Array TypeId) (t : TypeId) (args : Array Value) (h : ∀ v, args[0]? = some v → gv v = true) : CS (Builtin.cap_ ts t args) := by
  unfold Builtin.cap_
  split
  · rename_i u x h2
    have hx := h x (Prod.mk.inj h2).2
    clear h2
    refine CS_bind (CS_underlying _) fun d => ?_
    cases x <;> simp [gv] at hx <;> split <;> first
      | exact CS_pure _
      | exact (NS_stuck _).cs
      | contradiction
      | (refine CS_bind (CS_underlying _) fun d => ?_; split <;> first | exact CS_pure _ | exact (NS_stuck _).cs)
  · exact (NS_stuck _).cs

/-- What goes through yields a value, leaves the world, and goes through alike in every world. -/
def CV (m : Sem Next) : Prop := ∀ P w x w', m.run P w = .ok x w' → (∃ v, x = .value v) ∧ w' = w ∧ ∀ w2, m.run P w2 = .ok x w2
def RV (m : Sem Next) : Prop := ∀ P w x w', m.run P w = .ok x w' → (∃ v, x = .value v) ∧ w' = w
theorem CV.rv {m : Sem Next} (h : CV m) : RV m := fun P w x w' e => ⟨(h P w x w' e).1, (h P w x w' e).2.1⟩
theorem CV_of {s : Sem Value} (h : CS s) : CV (do pure (.value (← s))) := fun P w x w' e => by
  obtain ⟨a, w1, h1, h2⟩ := run_bind_ok e
  have h3 : (.ok (.value a) w1 : Result Next) = .ok x w' := h2
  cases h3
  obtain ⟨rfl, g⟩ := h P w a _ h1
  exact ⟨⟨a, rfl⟩, rfl, fun w2 => run_bind_mk (g w2) rfl⟩
theorem RV_of {s : Sem Value} (h : RS s) : RV (do pure (.value (← s))) := fun P w x w' e => by
  obtain ⟨a, w1, h1, h2⟩ := run_bind_ok e
  have h3 : (.ok (.value a) w1 : Result Next) = .ok x w' := h2
  cases h3
  exact ⟨⟨a, rfl⟩, h P w a _ h1⟩
theorem CV_pure (v : Value) : CV (pure (.value v)) := fun P w x w' e => by
  have h3 : (.ok (.value v) w : Result Next) = .ok x w' := e
  cases h3
  exact ⟨⟨v, rfl⟩, rfl, fun _ => rfl⟩
theorem CV_bind {α : Type} {s : Sem α} {f : α → Sem Next} (h : CS s) (hf : ∀ a, CV (f a)) : CV (s >>= f) := fun P w x w' e => by
  obtain ⟨a, w1, h1, h2⟩ := run_bind_ok e
  obtain ⟨rfl, g1⟩ := h P w a w1 h1
  obtain ⟨hv, rfl, g2⟩ := hf a P _ x w' h2
  exact ⟨hv, rfl, fun w2 => run_bind_mk (g1 w2) (g2 w2)⟩
theorem NS.cv {m : Sem Next} (h : NS m) : CV m := fun P w x w' e => (h P w x w' e).elim

/-- The kinds of operations: 0 hangs on no world; 1 only reads; 2 anything. -/
def kindOf : Op → Nat
  | .move _ | .assign _ | .pick .. | .indexAddr .. | .field .. | .index .. | .extract .. | .build .. | .unOp .. | .slice .. | .binOp .. | .nilCheck _ => 0
  | .call c => match c.callee with
    | .builtin .len | .builtin .cap => if c.args.size = 1 then 0 else 2
    | .builtin .min | .builtin .max => if c.args.size = 2 then 0 else 2
    | _ => 2
  | .load .. | .fieldAddr .. => 1
  | _ => 2
/-- Which operations are asked of what their operands hold. -/
def asksVals : Op → Bool
  | .binOp .. | .nilCheck _ | .call _ => true
  | _ => false
def goodVals (ρ : Operand → Value) : Op → Bool
  | .binOp _ _ x y _ => gv (ρ x) && gv (ρ y)
  | .nilCheck x => gp (ρ x)
  | .call c => match c.callee with
    | .builtin .len | .builtin .cap | .builtin .min | .builtin .max => c.args.all fun x => gv (ρ x)
    | _ => true
  | _ => true

theorem RV_kind1 {ρ : Operand → Value} {o : Oper} (h : kindOf o.op = 1) : RV (execOp ρ o) := by
  obtain ⟨dst, op, type, pos, after, guard⟩ := o
  cases op <;> simp [kindOf] at h <;> unfold execOp
  case load t a => exact RV_of (RS_loadAt _ _)
  case fieldAddr t x f => exact RV_of (RS_fieldAt _ _ _)
  case call c => split at h <;> (try split at h) <;> simp at h

theorem all2 {p : Operand → Bool} {args : Array Operand} (h : args.all p = true) : ∀ x ∈ args.toList, p x = true := fun x hx => by
  rw [Array.all_eq_true_iff_forall_mem] at h
  exact h x (by simpa using hx)
theorem CV_call (ρ : Operand → Value) (c : Call) (t : TypeId) (hk : kindOf (.call c) = 0) (hg : goodVals ρ (.call c) = true) :
    CV (do let d ← resolve ρ c t; invoke d.target d.args) := by
  obtain ⟨callee, args, ts⟩ := c
  cases callee with
  | value f => simp [kindOf] at hk
  | invoke r m => simp [kindOf] at hk
  | builtin b =>
    have hres : ∀ (s : Sem Next), (do let d ← (pure { target := .builtin b ts t (args.map fun | .const _ => true | _ => false), args := args.map ρ } : Sem Deferred); invoke d.target d.args) = s → CV s → CV (do let d ← (pure { target := .builtin b ts t (args.map fun | .const _ => true | _ => false), args := args.map ρ } : Sem Deferred); invoke d.target d.args) := fun s e h => e ▸ h
    show CV (do let d ← (pure { target := .builtin b ts t (args.map fun | .const _ => true | _ => false), args := args.map ρ } : Sem Deferred); invoke d.target d.args)
    have hone : ∀ v, (args.map ρ)[0]? = some v → (args.all fun x => gv (ρ x)) = true → gv v = true := fun v hv ha => by
      rw [Array.getElem?_map] at hv
      cases h0 : args[0]? with
      | none => simp [h0] at hv
      | some x =>
        simp [h0] at hv
        subst hv
        exact all2 (p := fun x => gv (ρ x)) ha x (by simpa using Array.mem_of_getElem? h0)
    have htwo : args.size = 2 → (args.all fun x => gv (ρ x)) = true → ∃ u v, (args.map ρ).toList = [u, v] ∧ gv u = true ∧ gv v = true := fun hs ha => by
      obtain ⟨l⟩ := args
      match l, hs with
      | [x, y], _ =>
        have := all2 (p := fun x => gv (ρ x)) ha
        exact ⟨ρ x, ρ y, by simp, this x (by simp), this y (by simp)⟩
    cases b <;> simp [kindOf] at hk <;> simp only [goodVals] at hg
    case len => exact CV_of (CS_len ts t _ fun v hv => hone v hv hg)
    case cap => exact CV_of (CS_cap ts t _ fun v hv => hone v hv hg)
    case min =>
      obtain ⟨u, v, huv, hu, hv⟩ := htwo hk hg
      refine CV_of (s := Builtin.min_ ts t (args.map ρ)) ?_
      unfold Builtin.min_
      rw [huv]
      simp only [List.foldlM_cons, List.foldlM_nil]
      exact CS_bind (CS_min2 _ _ hu hv) fun _ => CS_pure _
    case max =>
      obtain ⟨u, v, huv, hu, hv⟩ := htwo hk hg
      refine CV_of (s := Builtin.max_ ts t (args.map ρ)) ?_
      unfold Builtin.max_
      rw [huv]
      simp only [List.foldlM_cons, List.foldlM_nil]
      exact CS_bind (CS_max2 _ _ hu hv) fun _ => CS_pure _

theorem CV_kind0 {ρ : Operand → Value} {o : Oper} (h : kindOf o.op = 0) (hg : goodVals ρ o.op = true) : CV (execOp ρ o) := by
  obtain ⟨dst, op, type, pos, after, guard⟩ := o
  cases op
  case call c => exact CV_call ρ c type h hg
  case nilCheck x =>
    unfold execOp
    simp only [goodVals] at hg
    dsimp only
    generalize ρ x = v at hg ⊢
    cases v <;> first | exact CV_pure _ | (simp [gp, gv] at hg; done) | (rename_i p; cases p <;> first | exact CV_pure _ | (simp [gp, gv] at hg; done))
  case binOp op t x y u =>
    unfold execOp
    simp only [goodVals, Bool.and_eq_true] at hg
    exact CV_of (CS_bind (CS_eqGuard _ _ _ _ _ _ hg.1) fun _ => CS_binOp _ _ _ _ hg.1 hg.2)
  case move x => exact CV_pure _
  case assign x => exact CV_pure _
  case pick c a b =>
    unfold execOp
    exact CV_bind (CS_asBool _) fun _ => CV_pure _
  case indexAddr t x i => exact CV_of (CS_indexAt _ _ _)
  case field t x f => exact CV_of (CS_field _ _ _)
  case index t x i => exact CV_of (CS_index _ _ _)
  case extract x i => exact CV_of (CS_extract _ _)
  case build t ps => exact CV_of (CS_build _ _)
  case unOp op t x => exact CV_of (CS_unary _ _)
  case slice t x lo hi mx => exact CV_of (CS_sliceAt _ _ _ _ _)
  all_goals simp [kindOf] at h
end Go.Proofs.YtdbfimdcaacjhaaGreat
/- The law for a region that draws its order: one walk in the order of the text. -/
namespace Go.Proofs.YtdbfimdcaacjhaaGreat
open Go

/-- What holds at the end of a region that goes through; nothing else ends it. -/
def Only (K : Act → World → Prop) : Exit → Act → World → Prop
  | .normal, a, w => K a w
  | _, _, _ => False
theorem Only.lets {K : Act → World → Prop} : ¬ LetsOut (Only K) := fun ⟨_, _, h⟩ => h

section
variable {P : Program} {ops : Array Oper} {K : Act → World → Prop}

/-- One operation, its operands asked. -/
def stepG (P : Program) (ops : Array Oper) (i : Nat) (next : Act → World → Prop) (a : Act) (w : World) : Prop :=
  match ops[i]? with
  | none => False
  | some o => if Region.wanted o (yielded ops a.tmps) then goodVals a.eval o.op = true ∧ o.wp P a w next (Only fun _ _ => False) else next (a.put o.dst undef) w

theorem wp_only {o : Oper} {a : Act} {w : World} {next : Act → World → Prop} {L : Act → World → Prop} (h : o.wp P a w next (Only L)) : o.wp P a w next (Only fun _ _ => False) := by
  unfold Oper.wp at *
  generalize (execOp a.eval o).run P w = r at *
  cases r with
  | ok n w' =>
    cases n <;> simp only [Oper.upon] at h ⊢
    case enter f args =>
      refine Calls.mono h fun e w'' he => ?_
      cases e with
      | returned v => exact he
      | panicked c => exact he
      | outgrown => exact (Only.lets he).elim
    all_goals exact h
  | halt x w' =>
    cases x <;> simp only [Oper.upon] at h ⊢
    case panic v => exact h
theorem only_wp {o : Oper} {a : Act} {w : World} {next : Act → World → Prop} {L : Act → World → Prop} (h : o.wp P a w next (Only fun _ _ => False)) : o.wp P a w next (Only L) := by
  unfold Oper.wp at *
  generalize (execOp a.eval o).run P w = r at *
  cases r with
  | ok n w' =>
    cases n <;> simp only [Oper.upon] at h ⊢
    case enter f args =>
      refine Calls.mono h fun e w'' he => ?_
      cases e with
      | returned v => exact he
      | panicked c => exact he
      | outgrown => exact (Only.lets he).elim
    all_goals exact h
  | halt x w' =>
    cases x <;> simp only [Oper.upon] at h ⊢
    case panic v => exact h

theorem stepG_mono {i : Nat} {n n' : Act → World → Prop} {a : Act} {w : World} (hn : ∀ a w, n a w → n' a w) (h : stepG P ops i n a w) : stepG P ops i n' a w := by
  unfold stepG at *
  split
  · rename_i ho; simp only [ho] at h
  · rename_i o ho
    simp only [ho] at h
    split
    · rename_i hw; simp only [hw, if_true] at h; exact ⟨h.1, Oper.wp_mono hn h.2⟩
    · rename_i hw; simp only [hw] at h; exact hn _ _ h

theorem stepG_wpOp {i : Nat} {n : Act → World → Prop} {a : Act} {w : World} (h : stepG P ops i n a w) : wpOp P ops (Only K) i n a w := by
  unfold stepG at h
  unfold wpOp
  split
  · rename_i ho; simp only [ho] at h
  · rename_i o ho
    simp only [ho] at h
    split
    · rename_i hw; simp only [hw, if_true] at h; exact .inl (only_wp h.2)
    · rename_i hw; simp only [hw] at h; exact h

/-- An operation that goes through comes somewhere. -/
theorem wp_out {o : Oper} {a : Act} {w : World} {next : Act → World → Prop} (h : o.wp P a w next (Only fun _ _ => False)) :
    ∃ a1 w1 v, next a1 w1 ∧ a1.tmps = (a.put o.dst v).tmps := by
  unfold Oper.wp at h
  generalize (execOp a.eval o).run P w = r at h
  cases r with
  | ok n w' =>
    cases n <;> simp only [Oper.upon] at h
    case value v => exact ⟨_, _, v, h, rfl⟩
    case skip => exact ⟨_, _, undef, h, rfl⟩
    case defer d => exact ⟨_, _, undef, h, by cases o.dst <;> rfl⟩
    case enter f args =>
      obtain ⟨e, w'', fr, hR, _⟩ := h []
      cases e with
      | returned v => exact ⟨_, _, v, hR, rfl⟩
      | panicked c => exact hR.elim
      | outgrown => exact (Only.lets hR).elim
    case row row args =>
      obtain ⟨v, w'', hR, _⟩ := h (Frame.enter P 0 #[] .normal) []
      exact ⟨_, _, v, hR, rfl⟩
  | halt x w' =>
    cases x <;> simp only [Oper.upon] at h
    case panic v => exact h.elim

theorem eval_of_tmps {a b : Act} (h : a.tmps = b.tmps) : a.eval = b.eval := by
  funext x; cases x <;> simp [Act.eval, h]

theorem good_congr {ρ ρ' : Operand → Value} (op : Op) (h : ∀ x ∈ op.operands, ρ x = ρ' x) : goodVals ρ op = goodVals ρ' op := by
  cases op <;> simp only [goodVals]
  case binOp b t x y u => rw [h x (by simp [Op.operands]), h y (by simp [Op.operands])]
  case nilCheck x => rw [h x (by simp [Op.operands])]
  case call c =>
    have hall : (c.args.all fun x => gv (ρ x)) = (c.args.all fun x => gv (ρ' x)) := by
      rw [Bool.eq_iff_iff, Array.all_eq_true_iff_forall_mem, Array.all_eq_true_iff_forall_mem]
      exact ⟨fun g x hx => by rw [← h x (by simp [Op.operands, Call.operands, hx])]; exact g x hx, fun g x hx => by rw [h x (by simp [Op.operands, Call.operands, hx])]; exact g x hx⟩
    split <;> first | rfl | exact hall
theorem good_put {o : Oper} {a : Act} {dst : Option Tmp} {v : Value} (h : ∀ d, dst = some d → d ∉ o.looksAt ops) : goodVals (a.put dst v).eval o.op = goodVals a.eval o.op :=
  good_congr o.op fun x hx => Act.eval_put fun d hd hxd => h d hd (by
    subst hxd
    exact List.mem_append_left _ (List.mem_filterMap.2 ⟨.tmp d, by simpa using hx, rfl⟩))

/-- What an operation of kind 0 or 1 yields. -/
theorem stepG_const {i : Nat} {o : Oper} (ho : ops[i]? = some o) (hk : kindOf o.op = 0) {n : Act → World → Prop} {a : Act} {w : World} (h : stepG P ops i n a w) :
    ∃ v, Yields P ops o v a ∧ n (a.put o.dst v) w := by
  unfold stepG at h
  simp only [ho] at h
  by_cases hw : Region.wanted o (yielded ops a.tmps) = true
  · simp only [hw, if_true] at h
    obtain ⟨hg, h⟩ := h
    unfold Oper.wp at h
    have hc := CV_kind0 hk hg
    cases hr : (execOp a.eval o).run P w with
    | ok x w' =>
      obtain ⟨⟨v, rfl⟩, rfl, hall⟩ := hc P w x w' hr
      rw [hr] at h
      exact ⟨v, .inl ⟨hw, hall⟩, h⟩
    | halt x w' => rw [hr] at h; cases x <;> simp only [Oper.upon] at h; exact h.elim
  · simp only [hw] at h
    exact ⟨undef, .inr ⟨by simpa using hw, rfl⟩, h⟩
theorem stepG_reads {i : Nat} {o : Oper} (ho : ops[i]? = some o) (hk : kindOf o.op ≤ 1) {n : Act → World → Prop} {a : Act} {w : World} (h : stepG P ops i n a w) :
    ∃ v, YieldsAt P ops w o v a ∧ n (a.put o.dst v) w := by
  unfold stepG at h
  simp only [ho] at h
  by_cases hw : Region.wanted o (yielded ops a.tmps) = true
  · simp only [hw, if_true] at h
    obtain ⟨hg, h⟩ := h
    unfold Oper.wp at h
    have hc : RV (execOp a.eval o) := by
      rcases Nat.lt_or_ge (kindOf o.op) 1 with h0 | h1
      · exact (CV_kind0 (by omega) hg).rv
      · exact RV_kind1 (by omega)
    cases hr : (execOp a.eval o).run P w with
    | ok x w' =>
      obtain ⟨⟨v, rfl⟩, rfl⟩ := hc P w x w' hr
      rw [hr] at h
      exact ⟨v, .inl ⟨hw, .inl hr⟩, h⟩
    | halt x w' => rw [hr] at h; cases x <;> simp only [Oper.upon] at h; exact h.elim
  · simp only [hw] at h
    exact ⟨undef, .inr ⟨by simpa using hw, rfl⟩, h⟩

/-- One operation's place behind another's, where it yields whatever the other does. -/
theorem stepG_in {i : Nat} {oi ot : Oper} {v : Value} (hi : ops[i]? = some oi) (hap : oi.apart ops ot = true)
    (hsi : ∀ cs b, oi.op ≠ .select cs b) (hst : ∀ cs b, ot.op ≠ .select cs b) {N M : Act → World → Prop} {a : Act} {w : World}
    (hN : ∀ a1 w1, N a1 w1 → Yields P ops ot v a1 → M (a1.put ot.dst v) w1)
    (hy : Yields P ops ot v a) (h : stepG P ops i N a w) : stepG P ops i M (a.put ot.dst v) w := by
  obtain ⟨h1, h2, h3⟩ := Oper.apart_spec hap
  have h2' : ∀ d, ot.dst = some d → oi.dst ≠ some d := fun d hd he => h2 d he hd
  have keep : ∀ (a : Act), Yields P ops ot v a → ∀ u, Yields P ops ot v (a.put oi.dst u) := fun a hy u =>
    hy.of_same (execOp_put ot hst a oi.dst u h1) (wanted_put ot a oi.dst u h1)
  have keepD : ∀ d, Yields P ops ot v { a with defers := d :: a.defers } := fun d => hy.of_same rfl rfl
  unfold stepG at *
  simp only [hi] at *
  rw [wanted_put oi a ot.dst v h3]
  split
  · rename_i hw
    simp only [hw, if_true] at h
    obtain ⟨hg, h⟩ := h
    refine ⟨by rw [good_put (ops := ops) h3]; exact hg, ?_⟩
    unfold Oper.wp at *
    rw [execOp_put oi hsi a ot.dst v h3]
    generalize (execOp a.eval oi).run P w = r at *
    cases r with
    | ok n w' =>
      cases n <;> simp only [Oper.upon] at h ⊢
      case value u => rw [Act.put_comm a v u h2']; exact hN _ _ h (keep a hy u)
      case skip => rw [Act.put_comm a v undef h2']; exact hN _ _ h (keep a hy undef)
      case defer d =>
        rw [Act.put_defers, Act.put_comm _ v undef h2']
        exact hN _ _ h (keep _ (keepD d) undef)
      case enter f args =>
        refine Calls.mono h fun e w'' he => ?_
        cases e with
        | returned u => dsimp only at he ⊢; rw [Act.put_comm a v u h2']; exact hN _ _ he (keep a hy u)
        | panicked c => exact he
        | outgrown => exact he
      case row row args => exact Rows.mono h fun u w'' he => by rw [Act.put_comm a v u h2']; exact hN _ _ he (keep a hy u)
    | halt x w' =>
      cases x <;> simp only [Oper.upon] at h ⊢
      case panic u => exact h
  · rename_i hw
    simp only [hw] at h
    rw [Act.put_comm a v undef h2']
    exact hN _ _ h (keep a hy undef)

def Yields1 (P : Program) (ops : Array Oper) (w : World) (o : Oper) (v : Value) (a : Act) : Prop :=
  (Region.wanted o (yielded ops a.tmps) = true ∧ (execOp a.eval o).run P w = .ok (.value v) w) ∨ (Region.wanted o (yielded ops a.tmps) = false ∧ v = undef)
theorem Yields_det {o : Oper} {v v' : Value} {a : Act} (h : Yields P ops o v a) (h' : Yields P ops o v' a) (w0 : World) : v = v' := by
  rcases h with ⟨hw, hv⟩ | ⟨hw, rfl⟩ <;> rcases h' with ⟨hw', hv'⟩ | ⟨hw', rfl⟩
  · have := (hv w0).symm.trans (hv' w0)
    cases this; rfl
  · rw [hw] at hw'; cases hw'
  · rw [hw] at hw'; cases hw'
  · rfl

/-- What a step asks of its operands. -/
def GoodAt (ops : Array Oper) (o : Oper) (a : Act) : Prop := Region.wanted o (yielded ops a.tmps) = true → goodVals a.eval o.op = true
theorem stepG_good {i : Nat} {o : Oper} (hi : ops[i]? = some o) {N : Act → World → Prop} {a : Act} {w : World} (h : stepG P ops i N a w) : GoodAt ops o a := by
  intro hw
  unfold stepG at h
  simp only [hi, hw, if_true] at h
  exact h.1
theorem GoodAt_put {o : Oper} {a : Act} {dst : Option Tmp} {v : Value} (h : ∀ d, dst = some d → d ∉ o.looksAt ops) : GoodAt ops o (a.put dst v) ↔ GoodAt ops o a := by
  unfold GoodAt
  rw [wanted_put o a dst v h, good_put (ops := ops) h]
theorem GoodAt_tmps {o : Oper} {a b : Act} (h : a.tmps = b.tmps) : GoodAt ops o a ↔ GoodAt ops o b := by
  unfold GoodAt
  rw [h, eval_of_tmps h]
theorem stepG_of_const {i : Nat} {o : Oper} {v : Value} {a : Act} {w : World} (hi : ops[i]? = some o) (hy : Yields P ops o v a) (hg : GoodAt ops o a)
    {N : Act → World → Prop} (h : N (a.put o.dst v) w) : stepG P ops i N a w := by
  unfold stepG
  simp only [hi]
  rcases hy with ⟨hw, hv⟩ | ⟨hw, rfl⟩
  · simp only [hw, if_true]; exact ⟨hg hw, by unfold Oper.wp; rw [hv]; exact h⟩
  · simp only [hw, Bool.false_eq_true, if_false]; exact h

theorem stepG_of_one {i : Nat} {o : Oper} {v : Value} {a : Act} {w : World} (hi : ops[i]? = some o) (hy : Yields1 P ops w o v a) (hg : GoodAt ops o a)
    {N : Act → World → Prop} (h : N (a.put o.dst v) w) : stepG P ops i N a w := by
  unfold stepG
  simp only [hi]
  rcases hy with ⟨hw, hv⟩ | ⟨hw, rfl⟩
  · simp only [hw, if_true]; exact ⟨hg hw, by unfold Oper.wp; rw [hv]; exact h⟩
  · simp only [hw, Bool.false_eq_true, if_false]; exact h

/-- One that yields in every world may come behind. -/
theorem stepG_behind {t : Nat} {oi ot : Oper} {v : Value} (ht : ops[t]? = some ot) (hap : oi.apart ops ot = true)
    (hsi : ∀ cs b, oi.op ≠ .select cs b) (hst : ∀ cs b, ot.op ≠ .select cs b) {N : Act → World → Prop} {a : Act} {w : World}
    (hy : Yields P ops oi v a) (hg : GoodAt ops oi a) (h : stepG P ops t N (a.put oi.dst v) w) :
    stepG P ops t (fun a' w' => (Yields P ops oi v a' ∧ GoodAt ops oi a') ∧ N (a'.put oi.dst v) w') a w := by
  obtain ⟨h1, h2, h3⟩ := Oper.apart_spec hap
  have keep : ∀ (a : Act), Yields P ops oi v a ∧ GoodAt ops oi a → ∀ u, Yields P ops oi v (a.put ot.dst u) ∧ GoodAt ops oi (a.put ot.dst u) := fun a hy u =>
    ⟨hy.1.of_same (execOp_put oi hsi a ot.dst u h3) (wanted_put oi a ot.dst u h3), (GoodAt_put h3).2 hy.2⟩
  have keepD : ∀ d, Yields P ops oi v { a with defers := d :: a.defers } ∧ GoodAt ops oi { a with defers := d :: a.defers } := fun d => ⟨hy.of_same rfl rfl, hg⟩
  unfold stepG at *
  simp only [ht] at *
  rw [wanted_put ot a oi.dst v h1] at h
  split
  · rename_i hw
    simp only [hw, if_true] at h
    obtain ⟨hgt, h⟩ := h
    refine ⟨by rw [good_put (ops := ops) h1] at hgt; exact hgt, ?_⟩
    unfold Oper.wp at *
    rw [execOp_put ot hst a oi.dst v h1] at h
    generalize (execOp a.eval ot).run P w = r at *
    cases r with
    | ok n w' =>
      cases n <;> simp only [Oper.upon] at h ⊢
      case value u => exact ⟨keep a ⟨hy, hg⟩ u, by rw [← Act.put_comm a v u h2]; exact h⟩
      case skip => exact ⟨keep a ⟨hy, hg⟩ _, by rw [← Act.put_comm a v undef h2]; exact h⟩
      case defer d =>
        refine ⟨keep _ (keepD d) _, ?_⟩
        rw [← Act.put_comm _ v undef h2, ← Act.put_defers]
        exact h
      case enter f args =>
        refine Calls.mono h fun e w'' he => ?_
        cases e with
        | returned u => exact ⟨keep a ⟨hy, hg⟩ u, by rw [← Act.put_comm a v u h2]; exact he⟩
        | panicked c => exact he
        | outgrown => exact he
      case row row args => exact Rows.mono h fun u w'' he => ⟨keep a ⟨hy, hg⟩ u, by rw [← Act.put_comm a v u h2]; exact he⟩
    | halt x w' =>
      cases x <;> simp only [Oper.upon] at h ⊢
      case panic u => exact h
  · rename_i hw
    simp only [hw] at h
    exact ⟨keep a ⟨hy, hg⟩ _, by rw [← Act.put_comm a v undef h2]; exact h⟩

theorem apart_symm {x y : Oper} (h : x.apart ops y = true) : (∀ d, y.dst = some d → x.dst ≠ some d) := fun d hd he => (Oper.apart_spec h).2.1 d he hd

theorem stepG_swap {i t : Nat} {oi ot : Oper} (hi : ops[i]? = some oi) (ht : ops[t]? = some ot) (hap : oi.apart ops ot = true)
    (hsi : ∀ cs b, oi.op ≠ .select cs b) (hst : ∀ cs b, ot.op ≠ .select cs b)
    (hk : kindOf oi.op = 0 ∨ kindOf ot.op = 0 ∨ (kindOf oi.op ≤ 1 ∧ kindOf ot.op ≤ 1)) {N : Act → World → Prop} {a : Act} {w : World}
    (h : stepG P ops i (stepG P ops t N) a w) : stepG P ops t (stepG P ops i N) a w := by
  obtain ⟨h1, h2, h3⟩ := Oper.apart_spec hap
  have hgi := stepG_good hi h
  rcases hk with hk | hk | ⟨hk1, hk2⟩
  · obtain ⟨v, hy, h4⟩ := stepG_const hi hk h
    exact stepG_mono (fun a' w' h5 => stepG_of_const hi h5.1.1 h5.1.2 h5.2) (stepG_behind ht hap hsi hst hy hgi h4)
  · have hout : ∃ v, Yields P ops ot v a ∧ GoodAt ops ot a := by
      have hex : ∃ a1 w1 u, stepG P ops t N a1 w1 ∧ a1.tmps = (a.put oi.dst u).tmps := by
        have h' := h
        unfold stepG at h'
        simp only [hi] at h'
        by_cases hw : Region.wanted oi (yielded ops a.tmps) = true
        · simp only [hw, if_true] at h'
          exact wp_out h'.2
        · simp only [hw] at h'
          exact ⟨_, _, undef, h', rfl⟩
      obtain ⟨a1, w1, u, h5, htm⟩ := hex
      obtain ⟨v, hy, _⟩ := stepG_const ht hk h5
      refine ⟨v, hy.of_same ?_ ?_, ?_⟩
      · rw [eval_of_tmps htm, execOp_put ot hst a oi.dst u h1]
      · rw [htm, wanted_put ot a oi.dst u h1]
      · exact (GoodAt_put h1).1 ((GoodAt_tmps htm).1 (stepG_good ht h5))
    obtain ⟨v, hy, hg⟩ := hout
    refine stepG_of_const ht hy hg ?_
    refine stepG_in hi hap hsi hst (fun a1 w1 h5 hy1 => ?_) hy h
    obtain ⟨v', hy', h6⟩ := stepG_const ht hk h5
    rw [Yields_det hy1 hy' w1]
    exact h6
  · obtain ⟨v, hy, h4⟩ := stepG_reads hi hk1 h
    obtain ⟨u, hu, h5⟩ := stepG_reads ht hk2 h4
    have hgt := (GoodAt_put h1).1 (stepG_good ht h4)
    have hu' : YieldsAt P ops w ot u a := hu.of_same (execOp_put ot hst a oi.dst v h1).symm (wanted_put ot a oi.dst v h1).symm
    have hy' : YieldsAt P ops w oi v (a.put ot.dst u) := hy.of_same (execOp_put oi hsi a ot.dst u h3) (wanted_put oi a ot.dst u h3)
    have noEnter : ∀ {o : Oper} {a : Act}, kindOf o.op ≤ 1 → GoodAt ops o a → ∀ x, YieldsAt P ops w o x a → Yields1 P ops w o x a := fun {o a} hk hg x hx => by
      rcases hx with ⟨hw, hv | ⟨hv, rfl⟩ | ⟨f, args, hv, hc⟩⟩ | ⟨hw, rfl⟩
      · exact .inl ⟨hw, hv⟩
      · have hr : RV (execOp a.eval o) := by
          rcases Nat.lt_or_ge (kindOf o.op) 1 with h0 | h1
          · exact (CV_kind0 (by omega) (hg hw)).rv
          · exact RV_kind1 (by omega)
        obtain ⟨⟨v, hv2⟩, _⟩ := hr P w _ w hv
        cases hv2
      · have hr : RV (execOp a.eval o) := by
          rcases Nat.lt_or_ge (kindOf o.op) 1 with h0 | h1
          · exact (CV_kind0 (by omega) (hg hw)).rv
          · exact RV_kind1 (by omega)
        obtain ⟨⟨v, hv2⟩, _⟩ := hr P w _ w hv
        cases hv2
      · exact .inr ⟨hw, rfl⟩
    refine stepG_of_one ht (noEnter hk2 hgt u hu') hgt ?_
    refine stepG_of_one hi (noEnter hk1 ((GoodAt_put h3).2 hgi) v hy') ((GoodAt_put h3).2 hgi) ?_
    rw [← Act.put_comm a v u h2]
    exact h5
end
end Go.Proofs.YtdbfimdcaacjhaaGreat
/- The law for a region that draws its order: the closed look, and the law. -/
namespace Go.Proofs.YtdbfimdcaacjhaaGreat
open Go

section
variable {P : Program} {ops : Array Oper} {K : Act → World → Prop}

/-- The operations of a list of places, one behind the other. -/
def walkG (P : Program) (ops : Array Oper) (K : Act → World → Prop) : List Nat → Act → World → Prop
  | [], a, w => K a w
  | i :: r, a, w => stepG P ops i (walkG P ops K r) a w

/-- Two places may change. -/
def mayChange (ops : Array Oper) (i t : Nat) : Prop :=
  ∀ oi ot, ops[i]? = some oi → ops[t]? = some ot → oi.apart ops ot = true ∧ (kindOf oi.op = 0 ∨ kindOf ot.op = 0 ∨ (kindOf oi.op ≤ 1 ∧ kindOf ot.op ≤ 1))

theorem walkG_first (hsel : Region.noSelect ops = true) {i : Nat} (hlt : i < ops.size) : ∀ (τ ρ : List Nat) (a : Act) (w : World), (∀ t ∈ τ, t < ops.size ∧ mayChange ops t i) →
    walkG P ops K (τ ++ i :: ρ) a w → stepG P ops i (walkG P ops K (τ ++ ρ)) a w
  | [], ρ, a, w, _, h => h
  | t :: τ, ρ, a, w, hτ, h => by
    obtain ⟨ht, hc⟩ := hτ t (by simp)
    have h1 : stepG P ops t (stepG P ops i (walkG P ops K (τ ++ ρ))) a w :=
      stepG_mono (fun a' w' h' => walkG_first hsel hlt τ ρ a' w' (fun x hx => hτ x (by simp [hx])) h') h
    have e1 : ops[t]? = some ops[t] := Array.getElem?_eq_getElem ht
    have e2 : ops[i]? = some ops[i] := Array.getElem?_eq_getElem hlt
    obtain ⟨hap, hk⟩ := hc _ _ e1 e2
    exact stepG_swap e1 e2 hap (fun cs b => Region.noSelect_spec hsel t _ cs b e1) (fun cs b => Region.noSelect_spec hsel i _ cs b e2) hk h1

/-- The places not yet taken, in the order of the text. -/
def rem (ops : Array Oper) (listed : Array Bool) : List Nat := (List.range ops.size).filter fun i => !listed.getD i true

theorem mem_rem {listed : Array Bool} {i : Nat} : i ∈ rem ops listed ↔ i < ops.size ∧ listed.getD i true = false := by
  simp [rem]

theorem rem_split {listed : Array Bool} (hs : listed.size = ops.size) {i : Nat} (hi : i ∈ rem ops listed) :
    ∃ τ ρ, rem ops listed = τ ++ i :: ρ ∧ rem ops (listed.setIfInBounds i true) = τ ++ ρ ∧ ∀ t ∈ τ, t < i ∧ t ∈ rem ops listed := by
  obtain ⟨hlt, hun⟩ := mem_rem.1 hi
  have hr : List.range ops.size = List.range i ++ i :: List.range' (i + 1) (ops.size - i - 1) := by
    rw [List.range_eq_range', List.range_eq_range']
    have h1 : List.range' 0 ops.size = List.range' 0 i ++ List.range' (0 + 1 * i) (ops.size - i) := by
      rw [List.range'_append]
      congr 1
      omega
    rw [h1]
    congr 1
    rw [show ops.size - i = (ops.size - i - 1) + 1 from by omega, List.range'_succ]
    simp
  refine ⟨(List.range i).filter fun j => !listed.getD j true, (List.range' (i + 1) (ops.size - i - 1)).filter fun j => !listed.getD j true, ?_, ?_, ?_⟩
  · unfold rem
    rw [hr, List.filter_append, List.filter_cons]
    simp only [hun, Bool.not_false, if_true]
  · unfold rem
    rw [hr, List.filter_append, List.filter_cons]
    have hin : (listed.setIfInBounds i true).getD i true = true := by simp [hs, hlt]
    rw [hin]
    simp only [Bool.not_true, Bool.false_eq_true, if_false]
    congr 1
    · refine List.filter_congr fun j hj => ?_
      rw [getD_set_ne true (by have := List.mem_range.1 hj; omega)]
    · refine List.filter_congr fun j hj => ?_
      rw [getD_set_ne true (by have := (List.mem_range'_1.1 hj).1; omega)]
  · intro t ht
    have h1 := List.mem_filter.1 ht
    have h2 := List.mem_range.1 h1.1
    exact ⟨h2, mem_rem.2 ⟨by omega, by simpa using h1.2⟩⟩

/-- What has been taken had all taken that it waits for. -/
def Closed (ops : Array Oper) (listed : Array Bool) : Prop :=
  ∀ j oj, ops[j]? = some oj → listed.getD j false = true → ∀ e ∈ oj.after, Region.binds .any e = true → listed.getD e.on false = true

theorem Closed.set {i : Nat} {listed : Array Bool} (h : Closed ops listed) (hi : i ∈ Region.ready .any ops listed) : Closed ops (listed.setIfInBounds i true) := by
  intro j oj hj hl e he hb
  obtain ⟨_, oi, hoi, hall⟩ := mem_ready.1 hi
  by_cases hij : i = j
  · subst hij
    have : oj = oi := Option.some.inj (hj.symm.trans hoi)
    subst this
    exact getD_set_true (hall e he hb)
  · rw [getD_set_ne false hij] at hl
    exact getD_set_true (h j oj hj hl e he hb)

theorem getD_replicate0 (m j : Nat) : (Array.replicate m false).getD j false = false := by
  rcases Nat.lt_or_ge j m with h | h
  · simp [h]
  · simp [h]
/-- What each operation waits for, at whatever remove: a list of numbers read as sets. -/
def waits : List Oper → List Nat → List Nat
  | [], acc => acc
  | o :: r, acc => waits r (acc ++ [o.after.toList.foldl (fun s e => if Region.binds .any e then s ||| 2 ^ e.on ||| acc.getD e.on 0 else s) 0])

theorem foldl_or (acc : List Nat) (t : Nat) : ∀ (es : List Edge) (s : Nat), (es.foldl (fun s e => if Region.binds .any e then s ||| 2 ^ e.on ||| acc.getD e.on 0 else s) s).testBit t = true →
    s.testBit t = true ∨ ∃ e ∈ es, Region.binds .any e = true ∧ (e.on = t ∨ (acc.getD e.on 0).testBit t = true)
  | [], s, h => .inl h
  | e :: es, s, h => by
    rw [List.foldl_cons] at h
    rcases foldl_or acc t es _ h with h1 | ⟨e', he', hb, hx⟩
    · by_cases hb : Region.binds .any e = true
      · rw [if_pos hb, Nat.testBit_or, Nat.testBit_or, Nat.testBit_two_pow, Bool.or_eq_true, Bool.or_eq_true] at h1
        rcases h1 with (h1 | h1) | h1
        · exact .inl h1
        · exact .inr ⟨e, by simp, hb, .inl (by simpa using h1)⟩
        · exact .inr ⟨e, by simp, hb, .inr h1⟩
      · rw [if_neg hb] at h1
        exact .inl h1
    · exact .inr ⟨e', by simp [he'], hb, hx⟩

/-- The list as far as it goes tells the truth. -/
def Truth (ops : Array Oper) (acc : List Nat) : Prop :=
  ∀ i t, i < acc.length → (acc.getD i 0).testBit t = true → ∃ oi, ops[i]? = some oi ∧ ∃ e ∈ oi.after, Region.binds .any e = true ∧ (e.on = t ∨ (e.on < i ∧ (acc.getD e.on 0).testBit t = true))

theorem waits_truth (hback : ∀ i oi, ops[i]? = some oi → ∀ e ∈ oi.after, Region.binds .any e = true → e.on < i) :
    ∀ (l : List Oper) (acc : List Nat), (∀ j, l[j]? = ops[acc.length + j]?) → Truth ops acc → Truth ops (waits l acc)
  | [], acc, _, h => h
  | o :: r, acc, hl, h => by
    unfold waits
    have ho : ops[acc.length]? = some o := by simpa using (hl 0).symm
    refine waits_truth hback r _ (fun j => by have := hl (j + 1); simpa [Nat.add_assoc, Nat.add_comm 1 j] using this) ?_
    intro i t hi hb
    rw [List.length_append, List.length_singleton] at hi
    rcases Nat.lt_or_ge i acc.length with h1 | h1
    · have e1 : ∀ x, x < acc.length → (acc ++ [o.after.toList.foldl (fun s e => if Region.binds .any e then s ||| 2 ^ e.on ||| acc.getD e.on 0 else s) 0]).getD x 0 = acc.getD x 0 := fun x hx => by
        simp [List.getD_eq_getElem?_getD, List.getElem?_append_left hx]
      rw [e1 i h1] at hb
      obtain ⟨oi, hoi, e, he, hbe, hx⟩ := h i t h1 hb
      exact ⟨oi, hoi, e, he, hbe, hx.imp id fun hx => ⟨hx.1, by rw [e1 _ (by omega)]; exact hx.2⟩⟩
    · obtain rfl : i = acc.length := by omega
      have e0 : (acc ++ [o.after.toList.foldl (fun s e => if Region.binds .any e then s ||| 2 ^ e.on ||| acc.getD e.on 0 else s) 0]).getD acc.length 0 = o.after.toList.foldl (fun s e => if Region.binds .any e then s ||| 2 ^ e.on ||| acc.getD e.on 0 else s) 0 := by
        simp [List.getD_eq_getElem?_getD]
      rw [e0] at hb
      rcases foldl_or acc t _ _ hb with h2 | ⟨e, he, hbe, hx⟩
      · simp at h2
      · have he' : e ∈ o.after := by simpa using he
        have hlt := hback _ _ ho e he' hbe
        refine ⟨o, ho, e, he', hbe, hx.imp id fun hx => ⟨hlt, ?_⟩⟩
        have e1 : (acc ++ [o.after.toList.foldl (fun s e => if Region.binds .any e then s ||| 2 ^ e.on ||| acc.getD e.on 0 else s) 0]).getD e.on 0 = acc.getD e.on 0 := by
          simp [List.getD_eq_getElem?_getD, List.getElem?_append_left hlt]
        rw [e1]; exact hx

theorem Truth.listed {acc : List Nat} (h : Truth ops acc) {listed : Array Bool} (hcl : Closed ops listed) : ∀ (i : Nat) (oi : Oper) (t : Nat), i < acc.length → ops[i]? = some oi →
    (∀ e ∈ oi.after, Region.binds .any e = true → listed.getD e.on false = true) → (acc.getD i 0).testBit t = true → listed.getD t false = true := by
  intro i
  induction i using Nat.strongRecOn with
  | _ i ih =>
    intro oi t hi hoi hall hb
    obtain ⟨oi', hoi', e, he, hbe, hx⟩ := h i t hi hb
    have : oi' = oi := Option.some.inj (hoi'.symm.trans hoi)
    subst this
    rcases hx with rfl | ⟨hlt, hx⟩
    · exact hall e he hbe
    · have hon := hall e he hbe
      have hsz : e.on < ops.size := by have := (Array.getElem?_eq_some_iff.1 hoi).1; omega
      have e1 : ops[e.on]? = some ops[e.on] := Array.getElem?_eq_getElem hsz
      exact ih e.on hlt _ t (by omega) e1 (hcl e.on _ e1 hon) hx

/-- What holds at a drawn region's end: what its operands held was of a plain kind. -/
def OnlyG (l : List Oper) (K : Act → World → Prop) : Exit → Act → World → Prop
  | .normal, a, w => (l.all fun o => goodVals a.eval o.op || !Region.wanted o (yielded l.toArray a.tmps)) = true ∧ K a w
  | _, _, _ => False
theorem OnlyG.intro {l : List Oper} {K : Act → World → Prop} {a : Act} {w : World} (h : (l.all fun o => goodVals a.eval o.op || !Region.wanted o (yielded l.toArray a.tmps)) = true) (hK : K a w) : OnlyG l K .normal a w := ⟨h, hK⟩
theorem OnlyG.lets {l : List Oper} {K : Act → World → Prop} : ¬ LetsOut (OnlyG l K) := fun ⟨_, _, h⟩ => h

theorem wp_strict {o : Oper} {a : Act} {w : World} {next : Act → World → Prop} {l : List Oper} (h : o.wp P a w next (OnlyG l K)) : o.wp P a w next (Only fun _ _ => False) := by
  unfold Oper.wp at *
  generalize (execOp a.eval o).run P w = r at *
  cases r with
  | ok n w' =>
    cases n <;> simp only [Oper.upon] at h ⊢
    case enter f args =>
      refine Calls.mono h fun e w'' he => ?_
      cases e with
      | returned v => exact he
      | panicked c => exact he
      | outgrown => exact (OnlyG.lets he).elim
    all_goals exact h
  | halt x w' =>
    cases x <;> simp only [Oper.upon] at h ⊢
    case panic v => exact h

theorem good_default {ρ : Operand → Value} {op : Op} (h : asksVals op = false) : goodVals ρ op = true := by
  cases op <;> simp [asksVals] at h <;> rfl

theorem list_walk {l0 : List Oper} (h0 : ops = l0.toArray) : ∀ (l : List Oper) (p : Nat), (∀ j, l[j]? = ops[p + j]?) →
    (∀ (j q : Nat) (o o' : Oper), l[j]? = some o → l[q]? = some o' → j ≤ q → asksVals o.op = true → ∀ d, o'.dst = some d → d ∉ o.looksAt ops) →
    ∀ (a : Act) (w : World), wpList P ops (OnlyG l0 K) l a w →
    walkG P ops K (List.range' p l.length) a w ∧ ∃ a' w', (l0.all fun o => goodVals a'.eval o.op || !Region.wanted o (yielded l0.toArray a'.tmps)) = true ∧ K a' w' ∧
      ∀ s, (∀ o ∈ l, o.dst ≠ some s) → a'.tmps[s]? = a.tmps[s]?
  | [], p, _, _, a, w, h => ⟨h.2, a, w, h.1, h.2, fun _ _ => rfl⟩
  | o :: r, p, hl, hst, a, w, h => by
    have ho : ops[p]? = some o := by simpa using (hl 0).symm
    have hl' : ∀ j, r[j]? = ops[p + 1 + j]? := fun j => by have := hl (j + 1); simpa [Nat.add_assoc, Nat.add_comm 1 j] using this
    have hst' : ∀ (j q : Nat) (o o' : Oper), r[j]? = some o → r[q]? = some o' → j ≤ q → asksVals o.op = true → ∀ d, o'.dst = some d → d ∉ o.looksAt ops := fun j q o o' h1 h2 h3 => hst (j + 1) (q + 1) o o' (by simpa using h1) (by simpa using h2) (by omega)
    have ih := list_walk h0 r (p + 1) hl' hst'
    rw [List.length_cons, List.range'_succ]
    unfold wpList at h
    -- what the step ahead of the rest leaves at the end
    have fin : ∀ (a1 : Act) (v : Value), a1.tmps = (a.put o.dst v).tmps → (∃ a' w', (l0.all fun o => goodVals a'.eval o.op || !Region.wanted o (yielded l0.toArray a'.tmps)) = true ∧ K a' w' ∧ ∀ s, (∀ o ∈ r, o.dst ≠ some s) → a'.tmps[s]? = a1.tmps[s]?) →
        GoodAt ops o a ∧ ∃ a' w', (l0.all fun o => goodVals a'.eval o.op || !Region.wanted o (yielded l0.toArray a'.tmps)) = true ∧ K a' w' ∧ ∀ s, (∀ o' ∈ o :: r, o'.dst ≠ some s) → a'.tmps[s]? = a.tmps[s]? := by
      rintro a1 v htm ⟨a', w', hall, hK, hs⟩
      have keep : ∀ s, (∀ o' ∈ o :: r, o'.dst ≠ some s) → a'.tmps[s]? = a.tmps[s]? := fun s hn => by
        rw [hs s fun o' ho' => hn o' (by simp [ho']), htm]
        have := hn o (by simp)
        cases hd : o.dst with
        | none => rfl
        | some d =>
          have hne : d ≠ s := fun e => this (by rw [hd, e])
          simp [Act.put, Array.getElem?_setIfInBounds_ne hne]
      refine ⟨fun hw => ?_, a', w', hall, hK, keep⟩
      cases hask : asksVals o.op with
      | false => exact good_default hask
      | true =>
        have hlook : ∀ d, d ∈ o.looksAt ops → a'.tmps[d]? = a.tmps[d]? := fun d hd => keep d fun o' ho' he => by
          obtain ⟨q, hq, hq'⟩ := List.getElem_of_mem ho'
          exact hst 0 q o o' rfl (by rw [List.getElem?_eq_getElem hq, hq']) (Nat.zero_le _) hask d he hd
        have hev : ∀ x ∈ o.op.operands, a'.eval x = a.eval x := fun x hx => by
          cases x with
          | tmp d =>
            have : d ∈ o.looksAt ops := List.mem_append_left _ (List.mem_filterMap.2 ⟨.tmp d, by simpa using hx, rfl⟩)
            simp [Act.eval, Array.getD_eq_getD_getElem?, hlook d this]
          | _ => rfl
        have hwa : Region.wanted o (yielded ops a'.tmps) = Region.wanted o (yielded ops a.tmps) := by
          unfold Region.wanted
          cases hg : o.guard with
          | none => rfl
          | some gw =>
            obtain ⟨g, want⟩ := gw
            have hy : yielded ops a'.tmps g = yielded ops a.tmps g := by
              unfold yielded
              cases ht : (ops[g]?).bind (·.dst) with
              | none => rfl
              | some d =>
                have : d ∈ o.looksAt ops := by simp [Oper.looksAt, hg, ht]
                simp [hlook d this]
            simp only [hy]
        have hmem : o ∈ l0 := by
          have := Array.mem_of_getElem? ho
          rw [h0] at this
          simpa using this
        have h9 := List.all_eq_true.1 hall o hmem
        rw [← h0, hwa, hw, good_congr o.op hev] at h9
        simpa using h9
    by_cases hw : Region.wanted o (yielded ops a.tmps) = true
    · rw [if_pos hw] at h
      rcases h with h | ⟨_, hlets⟩
      case inr => exact (OnlyG.lets hlets).elim
      have h1 := wp_strict h
      have h2 := Oper.wp_mono (fun a1 w1 hr => ih a1 w1 hr) h1
      obtain ⟨a1, w1, v, h3, htm⟩ := wp_out h2
      obtain ⟨hg, hfin⟩ := fin a1 v htm h3.2
      refine ⟨?_, hfin⟩
      show stepG P ops p _ a w
      unfold stepG
      simp only [ho, hw, if_true]
      exact ⟨hg hw, Oper.wp_mono (fun a1 w1 hr => hr.1) h2⟩
    · rw [if_neg hw] at h
      have h2 := ih _ _ h
      obtain ⟨hg, hfin⟩ := fin (a.put o.dst undef) undef rfl h2.2
      refine ⟨?_, hfin⟩
      show stepG P ops p _ a w
      unfold stepG
      simp only [ho, hw, if_false, Bool.false_eq_true]
      exact h2.1

/-- THE CLOSED LOOK. -/
def lexB (ops : Array Oper) : Bool :=
  Region.noSelect ops && (List.range ops.size).all fun i => match ops[i]? with
    | none => true
    | some oi =>
      (oi.after.toList.all fun e => !Region.binds .any e || decide (e.on < i)) &&
      (!asksVals oi.op || (List.range ops.size).all fun q => decide (q < i) || match (ops[q]?).bind (·.dst) with
        | some d => !(oi.looksAt ops).contains d
        | none => true) &&
      (List.range i).all fun t => ((waits ops.toList []).getD i 0).testBit t || match ops[t]? with
        | none => true
        | some ot => ot.apart ops oi && (kindOf ot.op == 0 || kindOf oi.op == 0 || (decide (kindOf ot.op ≤ 1) && decide (kindOf oi.op ≤ 1)))

theorem walk_any (hsel : Region.noSelect ops = true) (hback : ∀ i oi, ops[i]? = some oi → ∀ e ∈ oi.after, Region.binds .any e = true → e.on < i) {acc : List Nat} (hacc : acc.length = ops.size) (htr : Truth ops acc)
    (hpair : ∀ i t, i < ops.size → t < i → (acc.getD i 0).testBit t = true ∨ mayChange ops t i) :
    ∀ (fuel : Nat) (listed : Array Bool) (a : Act) (w : World), listed.size = ops.size → Closed ops listed → (rem ops listed).length ≤ fuel →
    walkG P ops K (rem ops listed) a w → wpAny P .any ops (Only K) fuel listed a w := by
  have hrem : ∀ listed : Array Bool, listed.size = ops.size → Closed ops listed → Region.ready .any ops listed = [] → rem ops listed = [] := fun listed hs hcl hr => by
    cases hm : rem ops listed with
    | nil => rfl
    | cons i l =>
      exfalso
      have hi : i ∈ rem ops listed := by rw [hm]; simp
      obtain ⟨hlt, hun⟩ := mem_rem.1 hi
      obtain ⟨τ, ρ, e1, _, e3⟩ := rem_split hs hi
      have hτ : τ = [] := by
        cases τ with
        | nil => rfl
        | cons x τ =>
          rw [hm] at e1
          have hx : i = x := (List.cons.inj e1).1
          have := (e3 x (by simp)).1
          omega
      have eo : ops[i]? = some ops[i] := Array.getElem?_eq_getElem hlt
      have : i ∈ Region.ready .any ops listed := mem_ready.2 ⟨hun, _, eo, fun e he hb => by
        have hlt' := hback i _ eo e he hb
        by_cases hle : listed.getD e.on false = true
        · exact hle
        · exfalso
          have hmem : e.on ∈ rem ops listed := mem_rem.2 ⟨by omega, by
            have : e.on < listed.size := by omega
            simp [this] at hle ⊢; exact hle⟩
          rw [e1, hτ, List.nil_append] at hmem
          -- the rest of the list lies behind i
          have hlow : ∀ x ∈ rem ops listed, i ≤ x := fun x hx => by
            obtain ⟨τ', ρ', f1, _, f3⟩ := rem_split hs hx
            by_cases hτ' : τ' = []
            · rw [hτ', List.nil_append, hm] at f1
              have := (List.cons.inj f1).1; omega
            · cases τ' with
              | nil => exact absurd rfl hτ'
              | cons y τ' =>
                rw [hm] at f1
                have := (List.cons.inj f1).1
                have := (f3 y (by simp)).1
                omega
          have := hlow e.on (by rw [e1, hτ, List.nil_append]; exact hmem)
          omega⟩
      rw [hr] at this
      cases this
  intro fuel
  induction fuel with
  | zero =>
    intro listed a w hs hcl hlen h
    have hnil : rem ops listed = [] := List.eq_nil_of_length_eq_zero (by omega)
    refine ⟨?_, by rw [hnil] at h; exact h⟩
    cases hr : Region.ready .any ops listed with
    | nil => rfl
    | cons i l =>
      have hi : i ∈ Region.ready .any ops listed := by rw [hr]; simp
      obtain ⟨hun, o, ho, _⟩ := mem_ready.1 hi
      have : i ∈ rem ops listed := mem_rem.2 ⟨(Array.getElem?_eq_some_iff.1 ho).1, hun⟩
      rw [hnil] at this
      cases this
  | succ fuel ih =>
    intro listed a w hs hcl hlen h
    refine ⟨fun hr => by rw [hrem listed hs hcl hr] at h; exact h, fun i hi => ?_⟩
    obtain ⟨hun, o, ho, hall⟩ := mem_ready.1 hi
    have hlt : i < ops.size := (Array.getElem?_eq_some_iff.1 ho).1
    obtain ⟨τ, ρ, e1, e2, e3⟩ := rem_split hs (mem_rem.2 ⟨hlt, hun⟩)
    rw [e1] at h
    have hstep := walkG_first hsel hlt τ ρ a w (fun t ht => by
      obtain ⟨h1, h2⟩ := e3 t ht
      refine ⟨by omega, (hpair i t hlt h1).resolve_left fun hb => ?_⟩
      have := htr.listed hcl i o t (by omega) ho hall hb
      have h3 := (mem_rem.1 h2).2
      have h4 : t < listed.size := by omega
      simp [h4] at this h3
      rw [h3] at this
      cases this) h
    refine wpOp_mono (fun a' w' h' => ih _ a' w' (by simpa using hs) (hcl.set hi) ?_ (by rw [e2]; exact h')) (stepG_wpOp hstep)
    rw [e2]
    rw [e1] at hlen
    simp only [List.length_append, List.length_cons] at hlen ⊢
    omega

theorem waits_length : ∀ (l : List Oper) (acc : List Nat), (waits l acc).length = acc.length + l.length
  | [], acc => by simp [waits]
  | o :: r, acc => by unfold waits; rw [waits_length r]; simp; omega

/-- THE LAW: a region that draws its order, walked in the order of the text. -/
theorem wp_region_lex {id : Nat} {l : List Oper} {Q : Exit → Act → World → Prop} {a : Act} {w : World} (hm : P.follows .mixedOrders = true) (hB : lexB l.toArray = true)
    (h : wpList P l.toArray (OnlyG l (Q .normal)) l a w.drew) : (Code.region id l.toArray true).wp P Q a w := by
  refine Code.wp_mono (Q := Only (Q .normal)) (fun e a w hq => by cases e <;> first | exact hq | exact hq.elim) ?_
  refine wp_region_any hm ?_
  generalize hops : l.toArray = ops at *
  unfold lexB at hB
  simp only [Bool.and_eq_true, List.all_eq_true, List.mem_range] at hB
  obtain ⟨hsel, hB⟩ := hB
  have hB' : ∀ i oi, ops[i]? = some oi → _ := fun i oi hi => by
    have := hB i (Array.getElem?_eq_some_iff.1 hi).1
    simp only [hi, Bool.and_eq_true, List.all_eq_true, List.mem_range] at this
    exact this
  have hback : ∀ i oi, ops[i]? = some oi → ∀ e ∈ oi.after, Region.binds .any e = true → e.on < i := fun i oi hi e he hb => by
    have := (hB' i oi hi).1.1 e (by simpa using he)
    simpa [hb] using this
  have hlen : l.length = ops.size := by rw [← hops]; simp
  have hl : ∀ j, l[j]? = ops[0 + j]? := fun j => by rw [← hops]; simp
  have htr : Truth ops (waits ops.toList []) := waits_truth hback ops.toList [] (fun j => by simp) (fun i t hi => by simp at hi)
  have hw := (list_walk (P := P) (K := Q .normal) hops.symm l 0 hl (fun j q o o' h1 h2 hjq hask d hd hm => by
    have hj : ops[j]? = some o := by rw [← h1, hl]; simp
    have hq : ops[q]? = some o' := by rw [← h2, hl]; simp
    have h5 := (hB' j o hj).1.2
    rw [hask] at h5
    simp only [Bool.not_true, Bool.false_or, List.all_eq_true, List.mem_range] at h5
    have h6 := h5 q (Array.getElem?_eq_some_iff.1 hq).1
    simp only [hq, Option.bind_some, hd, Bool.or_eq_true, decide_eq_true_eq] at h6
    rcases h6 with h6 | h6
    · omega
    · simp [hm] at h6) a w.drew h).1
  have hr0 : rem ops (Array.replicate ops.size false) = List.range' 0 l.length := by
    unfold rem
    rw [hlen, ← List.range_eq_range', List.filter_eq_self]
    intro i hi
    have := List.mem_range.1 hi
    simp [this]
  refine walk_any hsel hback (acc := waits ops.toList []) (by rw [waits_length]; simp) htr (fun i t hi ht => ?_) ops.size _ a _ (by simp) (fun j oj _ hl => by rw [getD_replicate0] at hl; cases hl) ?_ ?_
  · have h1 := (hB' i _ (Array.getElem?_eq_getElem hi)).2 t ht
    simp only [Bool.or_eq_true] at h1
    rcases h1 with h1 | h1
    · exact .inl h1
    · refine .inr fun ot oi hot hoi => ?_
      have e1 : oi = ops[i] := Option.some.inj (hoi.symm.trans (Array.getElem?_eq_getElem hi))
      subst e1
      simp only [hot, Bool.and_eq_true, Bool.or_eq_true, beq_iff_eq, decide_eq_true_eq] at h1
      obtain ⟨hap, hk⟩ := h1
      refine ⟨hap, ?_⟩
      rcases hk with (hk | hk) | hk
      · exact .inl hk
      · exact .inr (.inl hk)
      · exact .inr (.inr hk)
  · rw [hr0]; simp [hlen]
  · rw [hr0]; exact hw
end
end Go.Proofs.YtdbfimdcaacjhaaGreat
/- Small lemmas that the walks share: new blocks, what a row of the call's own holds, ends of calls. -/
namespace Go.Proofs.YtdbfimdcaacjhaaGreat
open Go Go.RowKit

theorem ret_int {k : IntKind} {a b : Int} (h : a = b) : Ending.returned (.int k a) = .returned (.int k b) := by rw [h]
theorem ret_bool {a b : Bool} (h : a = b) : Ending.returned (.bool a) = .returned (.bool b) := by rw [h]
theorem below_drewN {B : Nat} {a w : World} (h : Below B a w) (n : Nat) : Below B a (w.drewN n) :=
  h.trans ⟨rfl, rfl, rfl, Nat.le_refl _, fun _ _ => rfl⟩
/-- A new block, then what makes blocks of its own. -/
theorem below_alloc {w w' : World} {o : Obj} (h : Below (w.alloc o).heap.size (w.alloc o) w') : Below w.heap.size w w' :=
  ((Below.refl _ _).alloc (Nat.le_refl _) o).trans (h.mono (by simp))
theorem below_later {w w1 w2 : World} {B : Nat} (h : Below B w w1) (hB : B ≤ w1.heap.size) (h2 : Below w1.heap.size w1 w2) : Below B w w2 := h.trans (h2.mono hB)

theorem heap_new (w : World) (o : Obj) (n : Nat) (hn : w.heap.size = n) : (w.alloc o).heap[n]? = some o := by
  subst hn; exact heap_alloc_new w o
/-- What lies in a new block of cells. -/
theorem cells_new (w : World) (cs : List Value) (t : TypeId) (n : Nat) (hn : w.heap.size = n) : ∀ j u, cs[j]? = some u → (w.alloc (.cells cs.toArray t)).cell? ((⟨n, 0, none⟩ : Addr).add j) = some u :=
  fun j u hu => World.news_of_block (cs := cs.toArray) (t := t) (fr := (0, 0)) (heap_new w _ n hn) j u (by simpa using hu)
theorem cells_new_drew (w : World) (cs : List Value) (t : TypeId) (n : Nat) (hn : w.heap.size = n) : ∀ j u, cs[j]? = some u → (w.alloc (.cells cs.toArray t)).drew.cell? ((⟨n, 0, none⟩ : Addr).add j) = some u :=
  cells_new w cs t n hn
/-- A cell of a block that was laid just ahead of a call. -/
theorem cell_kept {w w' : World} {cs : Array Value} {t : TypeId} (h : Below (w.alloc (.cells cs t)).heap.size (w.alloc (.cells cs t)) w') (j : Nat) (v : Value) (hv : cs[j]? = some v) : w'.cell? ⟨w.heap.size, j, none⟩ = some v := by
  rw [h.cell (p := ⟨w.heap.size, j, none⟩) (by simp), cell_of_row _ w.heap.size j cs t (0, 0) (heap_new w _ _ rfl)]
  exact hv
theorem below_alloc' {a w w' : World} {o : Obj} (h0 : Below a.heap.size a w) (h : Below (w.alloc o).heap.size (w.alloc o) w') : Below a.heap.size a w' :=
  (h0.alloc h0.size o).trans (h.mono (by have := h0.size; simp; omega))
theorem below_grown0 {w w' : World} (h : w.grownBy w' none) : Below w.heap.size w w' := (Below.refl _ _).grown h (Nat.le_refl _) (fun k hk => by cases hk)
/-- What an append leaves below the call's own blocks. -/
theorem below_append {w a w1 : World} {B : Nat} {e : TypeId} {size n : Nat} {v : Value} {xs : List Value} (h : Below B w a) (hown : a.ownsRow B e size v n xs) (hB : B ≤ a.heap.size) (hg : a.grownBy w1 v.ownBlock) : Below B w w1 :=
  h.grown hg hB fun k hk => (hown.lt k hk).1
/-- A value that owns something, written out; its cells. -/
theorem own_form {w : World} {base : Nat} {e : TypeId} {size : Nat} {v : Value} {n : Nat} {xs : List Value} (h : w.ownsRow base e size v n xs) :
    ∃ ao c, v = .slice ao n c ∧ n ≤ c ∧ (0 < n → ∃ g, ao = some ⟨g, 0, none⟩ ∧ base ≤ g ∧ g < w.heap.size ∧ ∀ j u, xs[j]? = some u → w.cell? ⟨g, j, none⟩ = some u) := by
  rcases h.2 with ⟨rfl, rfl⟩ | ⟨g, cap, cur, hv, hb, hg, hn, _⟩
  · exact ⟨none, 0, rfl, Nat.le_refl _, fun h => absurd h (by omega)⟩
  · refine ⟨some ⟨g, 0, none⟩, cap, hv, hn, fun _ => ⟨g, rfl, hb, ?_, fun j u hu => ?_⟩⟩
    · rcases Nat.lt_or_ge g w.heap.size with hlt | hge
      · exact hlt
      · rw [Array.getElem?_eq_none hge] at hg; cases hg
    · have := h.cells (g := g) (by rw [hv]; rfl) j u hu
      have hadd : (⟨g, 0, none⟩ : Addr).add j = ⟨g, j, none⟩ := by unfold Addr.add; split <;> simp_all
      rwa [hadd] at this
/-- In w, below block B, a slice's address leads to whole numbers of a kind. -/
def IntsAtK (κ : IntKind) (w : World) (B : Nat) (ao : Option Addr) (n : Nat) (z : Nat → Int) : Prop :=
  0 < n → ∃ b off, ao = some ⟨b, off, none⟩ ∧ b < B ∧ ∀ i, i < n → w.cell? ⟨b, off + i, none⟩ = some (.int κ (z i))
theorem IntsAtK.below {κ : IntKind} {w w' : World} {B n : Nat} {ao : Option Addr} {z : Nat → Int} (h : IntsAtK κ w B ao n z) {C : Nat} (hb : Below C w w') (hC : B ≤ C) : IntsAtK κ w' B ao n z := by
  intro h0
  obtain ⟨b, off, e, hlt, hc⟩ := h h0
  exact ⟨b, off, e, hlt, fun i hi => by rw [hb.cell (p := ⟨b, _, none⟩) (show b < C by omega)]; exact hc i hi⟩
theorem intsAt_of {κ : IntKind} {w : World} {x : Addr} {n : Nat} {zs : List Int} (h : ∀ i, i < zs.length → w.cell? (x.add i) = some (.int κ (zs.getD i 0))) (hn : n ≤ zs.length) : IntsAtK κ w w.heap.size (some x) n fun i => zs.getD i 0 := by
  intro h0
  obtain ⟨b, off, spot⟩ := x
  have hspot : spot = none := by simpa [Addr.add] using World.cell?_spot (h 0 (by omega))
  subst hspot
  have hadd : ∀ i, (⟨b, off, none⟩ : Addr).add i = ⟨b, off + i, none⟩ := fun i => by unfold Addr.add; split <;> simp_all
  have hc : ∀ i, i < zs.length → w.cell? ⟨b, off + i, none⟩ = some (.int κ (zs.getD i 0)) := fun i hi => by rw [← hadd]; exact h i hi
  exact ⟨b, off, rfl, World.block_lt_of_cell? w _ (hc 0 (by omega)), fun i hi => hc i (by omega)⟩
theorem i64_and_mask (z : Int) (p : Nat) (hp : p ≤ 62) (m : Int) (hm : m = 2 ^ p - 1) : bits .and .i64 z m = z % 2 ^ p := by
  subst hm
  have hpp : (2 : Nat) ^ p ≤ 2 ^ 62 := Nat.pow_le_pow_right (by omega) hp
  have hpos : 0 < (2 : Nat) ^ p := Nat.pow_pos (by omega)
  have hcast : ((2 : Int) ^ p - 1) = ((2 ^ p - 1 : Nat) : Int) := by
    rw [Int.natCast_sub (by omega)]; simp
  have hd : (2 : Int) ^ p ∣ 2 ^ 64 := by
    refine ⟨2 ^ (64 - p), ?_⟩
    rw [← Int.pow_add]; congr 1; omega
  unfold bits
  simp only []
  have h1 : (BitVec.ofInt 64 z &&& BitVec.ofInt 64 (2 ^ p - 1)).toNat = (BitVec.ofInt 64 z).toNat % 2 ^ p := by
    rw [hcast, BitVec.ofInt_natCast, BitVec.toNat_and, BitVec.toNat_ofNat, Nat.mod_eq_of_lt (a := 2 ^ p - 1) (by omega), Nat.and_two_pow_sub_one_eq_mod]
  show IntKind.i64.wrap ((BitVec.ofInt 64 z &&& BitVec.ofInt 64 (2 ^ p - 1)).toNat : Int) = _
  rw [h1, BitVec.toNat_ofInt]
  have h2 : (((z % ((2 ^ 64 : Nat) : Int)).toNat % 2 ^ p : Nat) : Int) = z % 2 ^ p := by
    rw [Int.natCast_emod, Int.toNat_of_nonneg (Int.emod_nonneg _ (by decide))]
    have : (((2 : Nat) ^ p : Nat) : Int) = (2 : Int) ^ p := by simp
    rw [this]
    exact Int.emod_emod_of_dvd z (by simpa using hd)
  rw [h2]
  have h3 : 0 ≤ z % (2 : Int) ^ p := Int.emod_nonneg _ (by have : (0 : Int) < 2 ^ p := Int.pow_pos (by omega); omega)
  have h4 : z % (2 : Int) ^ p < 2 ^ p := Int.emod_lt_of_pos _ (Int.pow_pos (by omega))
  have h5 : (2 : Int) ^ p ≤ 4611686018427387904 := by
    have : (((2 : Nat) ^ p : Nat) : Int) ≤ ((2 ^ 62 : Nat) : Int) := by exact_mod_cast hpp
    simpa using this
  exact IntWalk.i64_in _ (by omega)
end Go.Proofs.YtdbfimdcaacjhaaGreat
/- Small lemmas that walks share: what a call has turned; rows of the call's own. -/
namespace Go.Proofs.YtdbfimdcaacjhaaGreat
open Go.RowKit Go.Lib

/-- Nothing has turned but what lies in the blocks of S, and what is new. -/
def Turn (S : Nat → Prop) (w w' : World) : Prop := w'.os = w.os ∧ w'.tape = w.tape ∧ w'.output = w.output ∧ w.heap.size ≤ w'.heap.size ∧ ∀ k, k < w.heap.size → ¬ S k → w'.heap[k]? = w.heap[k]?
theorem Turn.refl (S : Nat → Prop) (w : World) : Turn S w w := ⟨rfl, rfl, rfl, Nat.le_refl _, fun _ _ _ => rfl⟩
theorem Turn.of_below {S : Nat → Prop} {w w' : World} (h : Below w.heap.size w w') : Turn S w w' := ⟨h.os, h.tape, h.output, h.size, fun k hk _ => h.block k hk⟩
theorem Turn.trans {S T : Nat → Prop} {w w1 w2 : World} (h : Turn S w w1) (h2 : Turn T w1 w2) (hT : ∀ k, k < w.heap.size → T k → S k) : Turn S w w2 :=
  ⟨h2.1.trans h.1, h2.2.1.trans h.2.1, h2.2.2.1.trans h.2.2.1, Nat.le_trans h.2.2.2.1 h2.2.2.2.1, fun k hk hs => (h2.2.2.2.2 k (Nat.lt_of_lt_of_le hk h.2.2.2.1) (fun ht => hs (hT k hk ht))).trans (h.2.2.2.2 k hk hs)⟩
theorem Turn.below {S : Nat → Prop} {w w' : World} {B : Nat} (h : Turn S w w') (hB : B ≤ w.heap.size) (hS : ∀ k, k < B → ¬ S k) : Below B w w' := ⟨h.1, h.2.1, h.2.2.1, h.2.2.2.1, fun k hk => h.2.2.2.2 k (Nat.lt_of_lt_of_le hk hB) (hS k hk)⟩
theorem Turn.drew {S : Nat → Prop} {w w' : World} (h : Turn S w w') : Turn S w w'.drew := ⟨h.1, h.2.1, h.2.2.1, h.2.2.2.1, h.2.2.2.2⟩
theorem Turn.setCell {S : Nat → Prop} {w w' : World} (h : Turn S w w') {a : Addr} (ha : S a.block) (u : Value) : Turn S w (w'.setCell a u) :=
  ⟨h.1, h.2.1, h.2.2.1, by simpa using h.2.2.2.1, fun k hk hs => (Below.heap_setCell _ _ _ _ (fun e => hs (by rw [e]; exact ha))).trans (h.2.2.2.2 k hk hs)⟩
theorem Turn.cell {S : Nat → Prop} {w w' : World} (h : Turn S w w') {p : Addr} (hp : p.block < w.heap.size) (hs : ¬ S p.block) : w'.cell? p = w.cell? p := World.cell?_of_block (h.2.2.2.2 _ hp hs)
theorem below_dn (w : World) (n : Nat) : Below w.heap.size w (w.drewN n) := ⟨rfl, rfl, rfl, Nat.le_refl _, fun _ _ => rfl⟩
theorem own_later {w w' : World} {base n size : Nat} {e : TypeId} {v : Value} {xs : List Value} (h : w.ownsRow base e size v n xs) (hb : Below w.heap.size w w') : w'.ownsRow base e size v n xs := by
  refine ⟨h.1, ?_⟩
  rcases h.2 with h1 | ⟨g, cap, cur, hv, hbg, hh, hx⟩
  · exact .inl h1
  · exact .inr ⟨g, cap, cur, hv, hbg, (hb.block g (Array.getElem?_eq_some_iff.1 hh).1).trans hh, hx⟩
theorem own_turn {S : Nat → Prop} {w w' : World} {base n c size : Nat} {e : TypeId} {vo : Option Addr} {xs : List Value} (h : w.ownsRow base e size (.slice vo n c) n xs) (ht : Turn S w w') (hs : ∀ g o s, vo = some ⟨g, o, s⟩ → ¬ S g) : w'.ownsRow base e size (.slice vo n c) n xs := by
  refine ⟨h.1, ?_⟩
  rcases h.2 with h1 | ⟨g, cap, cur, hv, hbg, hh, hx⟩
  · exact .inl h1
  · exact .inr ⟨g, cap, cur, hv, hbg, (ht.2.2.2.2 g (Array.getElem?_eq_some_iff.1 hh).1 (hs g 0 none (by cases hv; rfl))).trans hh, hx⟩
theorem own_set {w : World} {base n cap size g : Nat} {e : TypeId} {xs : List Value} (h : w.ownsRow base e size (.slice (some ⟨g, 0, none⟩) n cap) n xs) (j : Nat) (u : Value) :
    (w.setCell ⟨g, j, none⟩ u).ownsRow base e size (.slice (some ⟨g, 0, none⟩) n cap) n (xs.set j u) := by
  rcases h.2 with ⟨h0, _⟩ | ⟨g', cap', cur, hv, hb, hh, h1, h2, h3, h4⟩
  · cases h0
  · cases hv
    refine ⟨by simpa using h.1, .inr ⟨g, cap, cur.setIfInBounds j u, rfl, hb, ?_, h1, h2, by simpa using h3, ?_⟩⟩
    · rw [Sort.setCell_eq]
      simp [Sort.mapBlock, Array.getElem?_modify, hh, Sort.onCells]
    · rw [Array.toList_setIfInBounds, List.take_set, h4]
theorem own_drew {w : World} {base n size : Nat} {e : TypeId} {v : Value} {xs : List Value} (h : w.ownsRow base e size v n xs) : w.drew.ownsRow base e size v n xs := h
/-- The block of a row of the call's own. -/
theorem own_block {w : World} {base g n cap size : Nat} {e : TypeId} {xs : List Value} (h : w.ownsRow base e size (.slice (some ⟨g, 0, none⟩) n cap) n xs) :
    ∃ cur : Array Value, w.heap[g]? = some (.cells cur e (0, 0)) ∧ base ≤ g ∧ n ≤ cap ∧ cap ≤ maxLen ∧ cur.size = cap * size ∧ cur.toList.take (n * size) = xs := by
  rcases h.2 with ⟨hv, _⟩ | ⟨g', cap', cur, hv, hbg, hh, hnc, hcm, hcs, htake⟩
  · simp only [Value.slice.injEq] at hv; cases hv.1
  · simp only [Value.slice.injEq, Option.some.injEq, Addr.mk.injEq] at hv
    obtain ⟨⟨rfl, _⟩, _, rfl⟩ := hv
    exact ⟨cur, hh, hbg, hnc, hcm, hcs, htake⟩
/-- A row of the call's own, cut at its end. -/
theorem own_take {w : World} {base g n m cap size : Nat} {e : TypeId} {xs : List Value} (h : w.ownsRow base e size (.slice (some ⟨g, 0, none⟩) n cap) n xs) (hm : m ≤ n) :
    w.ownsRow base e size (.slice (some ⟨g, 0, none⟩) m cap) m (xs.take (m * size)) := by
  obtain ⟨cur, hh, hbg, hnc, hcm, hcs, htake⟩ := own_block h
  have hms : m * size ≤ n * size := Nat.mul_le_mul_right size hm
  refine ⟨by rw [List.length_take, h.1]; omega, .inr ⟨g, cap, cur, rfl, hbg, hh, by omega, hcm, hcs, ?_⟩⟩
  rw [← htake, List.take_take, Nat.min_eq_left hms]
theorem own_lt {w : World} {base n c size : Nat} {e : TypeId} {vo : Option Addr} {xs : List Value} (h : w.ownsRow base e size (.slice vo n c) n xs) : ∀ g o s, vo = some ⟨g, o, s⟩ → base ≤ g ∧ g < w.heap.size := fun g o s e => by
  rcases h.2 with ⟨hv, _⟩ | ⟨g', cap, cur, hv, hbg, hh, _⟩
  · simp only [Value.slice.injEq] at hv; rw [hv.1] at e; cases e
  · simp only [Value.slice.injEq] at hv; rw [hv.1] at e; cases e; exact ⟨hbg, (Array.getElem?_eq_some_iff.1 hh).1⟩
theorem own_base {w : World} {base b2 n size : Nat} {e : TypeId} {v : Value} {xs : List Value} (h : w.ownsRow base e size v n xs) (hb : b2 ≤ base) : w.ownsRow b2 e size v n xs :=
  ⟨h.1, h.2.imp (fun h => h) fun ⟨g, cap, cur, hv, hbg, r⟩ => ⟨g, cap, cur, hv, by omega, r⟩⟩
theorem wf_i64 {x : Int} (h0 : -9223372036854775808 ≤ x) (h1 : x ≤ 9223372036854775807) : (Lit.int .i64 x).wf = true := by
  unfold Lit.wf; rw [Bool.and_eq_true, decide_eq_true_eq, decide_eq_true_eq]; exact ⟨h0, h1⟩
theorem wrap_in {x : Int} (h1 : -9223372036854775808 ≤ x) (h2 : x ≤ 9223372036854775807) : IntKind.i64.wrap x = x := IntWalk.i64_in _ (by omega)
end Go.Proofs.YtdbfimdcaacjhaaGreat
/- Contracts of the numbers of 128 bits (apiaryref1.Wide): sum, turned about, a product (Wide.tpl without Below and Less). -/
namespace Go.Proofs.YtdbfimdcaacjhaaGreat
open Go.RowKit

theorem add64_run (x y c : Nat) (hc : c ≤ 1) (w : World) :
    (callFunc 103 #[.int .u64 x, .int .u64 y, .int .u64 c]).run Tryz.prog w =
      .ok (.value (.tuple #[.int .u64 (((x + y + c) % 18446744073709551616 : Nat) : Int), .int .u64 (((x + y + c) / 18446744073709551616 : Nat) : Int)])) w := by
  rw [run_callFunc_extern Tryz.func103 (by kernel_rfl) (by kernel_rfl) (by kernel_rfl) (e := add64Entry) (by kernel_rfl), run_add64 x y c (by omega) (by omega) (by omega) (by omega)]
  simp only [Result.andThen]
  congr 5 <;> omega

def pL (al bl : Nat) : Nat := (al + bl) % 18446744073709551616
def pH (ah al bh bl : Nat) : Nat := (ah + bh + (al + bl) / 18446744073709551616) % 18446744073709551616
set_option maxHeartbeats 400000 in
theorem plus_any (ah al bh bl : Nat) (h1 : al < 18446744073709551616) (h2 : bl < 18446744073709551616) (w : World) :
    Calls Tryz.prog 69 #[.agg #[.int .u64 ah, .int .u64 al], .agg #[.int .u64 bh, .int .u64 bl]] w fun e w' => e = .returned (.agg #[.int .u64 (pH ah al bh bl), .int .u64 (pL al bl)]) ∧ Below w.heap.size w w' := by
  obtain ⟨c, hc⟩ : ∃ c, (al + bl + 0) / 18446744073709551616 = c := ⟨_, rfl⟩
  obtain ⟨l, hl⟩ : ∃ c, (al + bl + 0) % 18446744073709551616 = c := ⟨_, rfl⟩
  obtain ⟨h, hh⟩ : ∃ h, (ah + bh + c) % 18446744073709551616 = h := ⟨_, rfl⟩
  obtain ⟨k, hk⟩ : ∃ h, (ah + bh + c) / 18446744073709551616 = h := ⟨_, rfl⟩
  have A1 : ∀ w, (callFunc 103 #[.int .u64 al, .int .u64 bl, .int .u64 0]).run Tryz.prog w = .ok (.value (.tuple #[.int .u64 (l : Nat), .int .u64 (c : Nat)])) w := fun w => by
    have := add64_run al bl 0 (by omega) w
    rw [hc, hl] at this
    exact this
  have A2 : ∀ w, (callFunc 103 #[.int .u64 ah, .int .u64 bh, .int .u64 c]).run Tryz.prog w = .ok (.value (.tuple #[.int .u64 (h : Nat), .int .u64 (k : Nat)])) w := fun w => by
    have := add64_run ah bh c (by omega) w
    rw [hh, hk] at this
    exact this
  have HC : Hid (pH ah al bh bl = h) := by show _ = _; unfold pH; rw [← hh, ← hc]; rfl
  have HL : Hid (pL al bl = l) := by show _ = _; unfold pL; rw [← hl]; rfl
  clear hc hl hh hk h1 h2
  go_enter Tryz.func69, Tryz.ntmps69
  go_wp2
  exact bodyPost_ret (v := .agg #[.int .u64 h, .int .u64 l]) (by simp [results, Tryz.results69, go_sem]) rfl ⟨by rw [HC.out, HL.out], (((Below.refl _ _).alloc (Nat.le_refl _) _).alloc (by simp) _).alloc (by simp; omega) _⟩


/-- Two halves tell a number, up to 2^128. -/
structure Rep (h l : Nat) (A : Int) : Prop where
  hh : h < 18446744073709551616
  hl : l < 18446744073709551616
  val : ((h : Int) * 18446744073709551616 + (l : Int) - A) % 340282366920938463463374607431768211456 = 0
theorem Rep.plus {ah al bh bl : Nat} {A B : Int} (h1 : Rep ah al A) (h2 : Rep bh bl B) : Rep (pH ah al bh bl) (pL al bl) (A + B) := by
  obtain ⟨a1, a2, a3⟩ := h1
  obtain ⟨b1, b2, b3⟩ := h2
  unfold pH pL
  exact ⟨by omega, by omega, by omega⟩
theorem plus_rep {ah al bh bl : Nat} {A B : Int} (h1 : Rep ah al A) (h2 : Rep bh bl B) (w : World) :
    Calls Tryz.prog 69 #[.agg #[.int .u64 ah, .int .u64 al], .agg #[.int .u64 bh, .int .u64 bl]] w fun e w' => ∃ h l : Nat, e = .returned (.agg #[.int .u64 h, .int .u64 l]) ∧ Rep h l (A + B) ∧ Below w.heap.size w w' :=
  (plus_any ah al bh bl h1.hl h2.hl w).mono fun _ _ ⟨he, hb⟩ => ⟨_, _, he, h1.plus h2, hb⟩
theorem not_u64 (x : Nat) (hx : x < 18446744073709551616) : bits .xor .u64 IntKind.u64.max (x : Int) = ((18446744073709551615 - x : Nat) : Int) := by
  unfold bits
  simp only []
  show IntKind.u64.wrap ((BitVec.ofInt 64 IntKind.u64.max ^^^ BitVec.ofInt 64 (x : Int)).toNat : Int) = _
  have e1 : BitVec.ofInt 64 IntKind.u64.max = BitVec.allOnes 64 := by decide
  have e2 : BitVec.allOnes 64 ^^^ BitVec.ofInt 64 (x : Int) = ~~~ BitVec.ofInt 64 (x : Int) := by
    rw [BitVec.xor_comm, BitVec.xor_allOnes]
  rw [e1, e2, BitVec.toNat_not, BitVec.ofInt_natCast, BitVec.toNat_ofNat, Nat.mod_eq_of_lt (by simpa using hx), IntKind.wrap_u64]
  omega
theorem Rep.turned {h l : Nat} {A : Int} (h1 : Rep h l A) : Rep (pH (18446744073709551615 - h) (18446744073709551615 - l) 0 1) (pL (18446744073709551615 - l) 1) (-A) := by
  obtain ⟨a1, a2, a3⟩ := h1
  unfold pH pL
  exact ⟨by omega, by omega, by omega⟩
theorem one_rep : Rep 0 1 1 := ⟨by omega, by omega, by decide⟩

set_option maxHeartbeats 400000 in
theorem turned_rep {h l : Nat} {A : Int} (hr : Rep h l A) (w : World) :
    Calls Tryz.prog 70 #[.agg #[.int .u64 h, .int .u64 l]] w fun e w' => ∃ h' l' : Nat, e = .returned (.agg #[.int .u64 h', .int .u64 l']) ∧ Rep h' l' (-A) ∧ Below w.heap.size w w' := by
  have HT := Lib.hid hr.turned
  have P1 := plus_any (18446744073709551615 - h) (18446744073709551615 - l) 0 1 (by omega) (by omega)
  have e1 := not_u64 h hr.hh
  have e2 := not_u64 l hr.hl
  obtain ⟨ch, hch⟩ : ∃ c, 18446744073709551615 - h = c := ⟨_, rfl⟩
  obtain ⟨cl, hcl⟩ : ∃ c, 18446744073709551615 - l = c := ⟨_, rfl⟩
  rw [hch] at e1 P1 HT
  rw [hcl] at e2 P1 HT
  obtain ⟨h', hh'⟩ : ∃ c, pH ch cl 0 1 = c := ⟨_, rfl⟩
  obtain ⟨l', hl'⟩ : ∃ c, pL cl 1 = c := ⟨_, rfl⟩
  rw [hh', hl'] at P1 HT
  have HP := Lib.hid P1
  clear hch hcl hr P1 hh' hl'
  go_enter Tryz.func70, Tryz.ntmps70
  go_wp2_with fail
  refine (HP.out _).mono ?_
  rintro e w1 ⟨rfl, hb1⟩
  have hz : w.heap.size + 1 < w1.heap.size := by have := hb1.size; simp at this; omega
  have c0 : w1.frozen? ⟨w.heap.size + 1, 0, none⟩ = false := by rw [hb1.frozen (p := ⟨w.heap.size + 1, 0, none⟩) (by simp)]; exact frozen_of_row _ _ _ _ _ (heap_new _ _ _ (by simp))
  have c1 : w1.frozen? ⟨w.heap.size + 1, 1, none⟩ = false := by rw [hb1.frozen (p := ⟨w.heap.size + 1, 1, none⟩) (by simp)]; exact frozen_of_row _ _ _ _ _ (heap_new _ _ _ (by simp))
  have d0 : w1.cell? ⟨w.heap.size + 1, 0, none⟩ = some (.int .u64 0) := by rw [hb1.cell (p := ⟨w.heap.size + 1, 0, none⟩) (by simp), cell_of_row _ _ _ _ _ _ (heap_new _ _ _ (by simp))]; rfl
  have d1 : w1.cell? ⟨w.heap.size + 1, 1, none⟩ = some (.int .u64 0) := by rw [hb1.cell (p := ⟨w.heap.size + 1, 1, none⟩) (by simp), cell_of_row _ _ _ _ _ _ (heap_new _ _ _ (by simp))]; rfl
  have hb2 : Hid (Below w.heap.size w w1) := ((((Below.refl _ _).alloc (Nat.le_refl _) _).alloc (by simp) _).trans (hb1.mono (by simp; omega)))
  clear hb1
  go_wp2
  exact bodyPost_ret (v := .agg #[.int .u64 h', .int .u64 l']) (by simp [results, Tryz.results70, go_sem, *]) rfl ⟨_, _, rfl, HT.out, (hb2.out.setCell (p := ⟨w.heap.size + 1, 0, none⟩) (by simp) _).setCell (p := ⟨w.heap.size + 1, 1, none⟩) (by simp) _⟩

set_option maxHeartbeats 1000000 in
/-- Both halves of a product: the library's own text, walked. -/
theorem mul64_any (x y : Nat) (hx : x < 18446744073709551616) (hy : y < 18446744073709551616) (w : World) :
    Calls Tryz.prog 101 #[.int .u64 x, .int .u64 y] w fun e w' => e = .returned (.tuple #[.int .u64 ((x * y / 18446744073709551616 : Nat) : Int), .int .u64 ((x * y % 18446744073709551616 : Nat) : Int)]) ∧ w = w' := by
  obtain ⟨bd, bt, bw, hhi⟩ := Lib.mul64_hi x y hx hy
  have ba := Lib.half_mul_le (a := x / 4294967296) (b := y / 4294967296) (by omega) (by omega)
  have bb := Lib.half_mul_le (a := x / 4294967296) (b := y % 4294967296) (by omega) (by omega)
  have bc := Lib.half_mul_le (a := x % 4294967296) (b := y / 4294967296) (by omega) (by omega)
  have ba' : x / 4294967296 * (y / 4294967296) < 18446744073709551616 := by omega
  have bb' : x / 4294967296 * (y % 4294967296) < 18446744073709551616 := by omega
  have bc' : x % 4294967296 * (y / 4294967296) < 18446744073709551616 := by omega
  have bh1 : x / 4294967296 * (y / 4294967296) + (x / 4294967296 * (y % 4294967296) + x % 4294967296 * (y % 4294967296) / 4294967296) / 4294967296 < 18446744073709551616 := by omega
  have bh : x / 4294967296 * (y / 4294967296) + (x / 4294967296 * (y % 4294967296) + x % 4294967296 * (y % 4294967296) / 4294967296) / 4294967296 + ((x / 4294967296 * (y % 4294967296) + x % 4294967296 * (y % 4294967296) / 4294967296) % 4294967296 + x % 4294967296 * (y / 4294967296)) / 4294967296 < 18446744073709551616 := by omega
  go_enter Tryz.func101, Tryz.ntmps101
  go_wp2
  simp only [Mul64.maskN x hx, Mul64.maskN y hy, Mul64.divN, Mul64.mulN, Mul64.addN, Mul64.wrapN _ bd, Mul64.wrapN _ bb', Mul64.wrapN _ bt, Mul64.maskN _ bt, Mul64.wrapN _ bc', Mul64.wrapN _ bw, Mul64.wrapN _ ba', Mul64.wrapN _ bh1, Mul64.wrapN _ bh, Mul64.wrapM (x * y)]
  rw [hhi]
  go_ret2
  exact ⟨rfl, rfl⟩

theorem rep_prod {x y : Nat} {A : Int} (_hx : x ≤ 9223372036854775808) (_hy : y ≤ 9223372036854775808) (hA : ((x * y : Nat) : Int) = A) (hb : x * y < 340282366920938463463374607431768211456) : Rep (x * y / 18446744073709551616) (x * y % 18446744073709551616) A := by
  subst hA
  generalize x * y = n at *
  exact ⟨by omega, by omega, by omega⟩

set_option maxHeartbeats 1000000 in
theorem times_rep (a b : Int) (ha : -9223372036854775808 ≤ a ∧ a ≤ 9223372036854775807) (hb : -9223372036854775808 ≤ b ∧ b ≤ 9223372036854775807) (w : World) :
    Calls Tryz.prog 67 #[.int .i64 a, .int .i64 b] w fun e w' => ∃ h l : Nat, e = .returned (.agg #[.int .u64 h, .int .u64 l]) ∧ Rep h l (a * b) ∧ Below w.heap.size w w' := by
  obtain ⟨x, hx⟩ : ∃ x, a.natAbs = x := ⟨_, rfl⟩
  obtain ⟨y, hy⟩ : ∃ x, b.natAbs = x := ⟨_, rfl⟩
  have hx1 : x ≤ 9223372036854775808 := by omega
  have hy1 : y ≤ 9223372036854775808 := by omega
  have hxy : x * y < 340282366920938463463374607431768211456 := Nat.lt_of_le_of_lt (Nat.mul_le_mul hx1 hy1) (by decide)
  have HM : Hid (∀ w : World, _) := fun w => mul64_any x y (by omega) (by omega) w
  have ea : IntKind.u64.wrap a = if a < 0 then ((18446744073709551616 - x : Nat) : Int) else (x : Int) := by rw [IntKind.wrap_u64]; split <;> omega
  have eb : IntKind.u64.wrap b = if b < 0 then ((18446744073709551616 - y : Nat) : Int) else (y : Int) := by rw [IntKind.wrap_u64]; split <;> omega
  have en : ∀ z : Nat, z ≤ 9223372036854775808 → 0 < z → IntKind.u64.wrap (-((18446744073709551616 - z : Nat) : Int)) = (z : Int) := fun z h1 h2 => by rw [IntKind.wrap_u64]; omega
  by_cases h1 : a < 0 <;> by_cases h2 : b < 0
  · have HR : Hid (Rep (x * y / 18446744073709551616) (x * y % 18446744073709551616) (a * b)) := rep_prod hx1 hy1 (by rw [Int.natCast_mul, show (x : Int) = -a by omega, show (y : Int) = -b by omega, Int.neg_mul_neg]) hxy
    rw [if_pos h1] at ea
    rw [if_pos h2] at eb
    have na := en x hx1 (by omega)
    obtain ⟨ca, hca⟩ : ∃ c, 18446744073709551616 - x = c := ⟨_, rfl⟩
    rw [hca] at ea na
    clear hca
    have nb := en y hy1 (by omega)
    obtain ⟨cb, hcb⟩ : ∃ c, 18446744073709551616 - y = c := ⟨_, rfl⟩
    rw [hcb] at eb nb
    clear hcb
    generalize x * y / 18446744073709551616 = H at HM HR
    generalize x * y % 18446744073709551616 = L at HM HR
    clear en hx hy ha hb hx1 hy1 hxy
    go_enter Tryz.func67, Tryz.ntmps67
    go_wp2_with (go_at_call 101; refine (HM.out _).mono ?_; rintro e w' ⟨rfl, rfl⟩)
    exact bodyPost_ret (v := .agg #[.int .u64 H, .int .u64 L]) (by simp [results, Tryz.results67, go_sem]) rfl ⟨_, _, rfl, HR.out, (Below.refl _ _).alloc (Nat.le_refl _) _⟩
  · have HR : Hid (Rep (x * y / 18446744073709551616) (x * y % 18446744073709551616) (-(a * b))) := rep_prod hx1 hy1 (by rw [Int.natCast_mul, show (x : Int) = -a by omega, show (y : Int) = b by omega, Int.neg_mul]) hxy
    rw [if_pos h1] at ea
    rw [if_neg h2] at eb
    have qb : decide (b < 0) = false := by simpa using h2
    have na := en x hx1 (by omega)
    obtain ⟨ca, hca⟩ : ∃ c, 18446744073709551616 - x = c := ⟨_, rfl⟩
    rw [hca] at ea na
    clear hca
    generalize x * y / 18446744073709551616 = H at HM HR
    generalize x * y % 18446744073709551616 = L at HM HR
    clear en hx hy ha hb hx1 hy1 hxy
    have HT : Hid (∀ w : World, _) := fun w => turned_rep HR.out w
    go_enter Tryz.func67, Tryz.ntmps67
    go_wp2_with (go_at_call 101; refine (HM.out _).mono ?_; rintro e w' ⟨rfl, rfl⟩)
    refine (HT.out _).mono ?_
    rintro e w1 ⟨h', l', rfl, hr1, hb1⟩
    rw [Int.neg_neg] at hr1
    have HR1 := Lib.hid hr1
    have hz : w.heap.size < w1.heap.size := by have := hb1.size; simp at this; omega
    have c0 : w1.frozen? ⟨w.heap.size, 0, none⟩ = false := by rw [hb1.frozen (p := ⟨w.heap.size, 0, none⟩) (by simp)]; exact frozen_of_row _ _ _ _ _ (heap_new _ _ _ (by simp))
    have c1 : w1.frozen? ⟨w.heap.size, 1, none⟩ = false := by rw [hb1.frozen (p := ⟨w.heap.size, 1, none⟩) (by simp)]; exact frozen_of_row _ _ _ _ _ (heap_new _ _ _ (by simp))
    have d0 : w1.cell? ⟨w.heap.size, 0, none⟩ = some (.int .u64 0) := by rw [hb1.cell (p := ⟨w.heap.size, 0, none⟩) (by simp), cell_of_row _ _ _ _ _ _ (heap_new _ _ _ (by simp))]; rfl
    have d1 : w1.cell? ⟨w.heap.size, 1, none⟩ = some (.int .u64 0) := by rw [hb1.cell (p := ⟨w.heap.size, 1, none⟩) (by simp), cell_of_row _ _ _ _ _ _ (heap_new _ _ _ (by simp))]; rfl
    have hb2 : Hid (Below w.heap.size w w1) := (((Below.refl _ _).alloc (Nat.le_refl _) _).trans (hb1.mono (by simp)))
    clear hb1 hr1
    go_wp2
    exact bodyPost_ret (v := .agg #[.int .u64 h', .int .u64 l']) (by simp [results, Tryz.results67, go_sem, *]) rfl ⟨_, _, rfl, HR1.out, (hb2.out.setCell (p := ⟨w.heap.size, 0, none⟩) (by simp) _).setCell (p := ⟨w.heap.size, 1, none⟩) (by simp) _⟩
  · have HR : Hid (Rep (x * y / 18446744073709551616) (x * y % 18446744073709551616) (-(a * b))) := rep_prod hx1 hy1 (by rw [Int.natCast_mul, show (x : Int) = a by omega, show (y : Int) = -b by omega, Int.mul_neg]) hxy
    rw [if_neg h1] at ea
    have qa : decide (a < 0) = false := by simpa using h1
    rw [if_pos h2] at eb
    have nb := en y hy1 (by omega)
    obtain ⟨cb, hcb⟩ : ∃ c, 18446744073709551616 - y = c := ⟨_, rfl⟩
    rw [hcb] at eb nb
    clear hcb
    generalize x * y / 18446744073709551616 = H at HM HR
    generalize x * y % 18446744073709551616 = L at HM HR
    clear en hx hy ha hb hx1 hy1 hxy
    have HT : Hid (∀ w : World, _) := fun w => turned_rep HR.out w
    go_enter Tryz.func67, Tryz.ntmps67
    go_wp2_with (go_at_call 101; refine (HM.out _).mono ?_; rintro e w' ⟨rfl, rfl⟩)
    refine (HT.out _).mono ?_
    rintro e w1 ⟨h', l', rfl, hr1, hb1⟩
    rw [Int.neg_neg] at hr1
    have HR1 := Lib.hid hr1
    have hz : w.heap.size < w1.heap.size := by have := hb1.size; simp at this; omega
    have c0 : w1.frozen? ⟨w.heap.size, 0, none⟩ = false := by rw [hb1.frozen (p := ⟨w.heap.size, 0, none⟩) (by simp)]; exact frozen_of_row _ _ _ _ _ (heap_new _ _ _ (by simp))
    have c1 : w1.frozen? ⟨w.heap.size, 1, none⟩ = false := by rw [hb1.frozen (p := ⟨w.heap.size, 1, none⟩) (by simp)]; exact frozen_of_row _ _ _ _ _ (heap_new _ _ _ (by simp))
    have d0 : w1.cell? ⟨w.heap.size, 0, none⟩ = some (.int .u64 0) := by rw [hb1.cell (p := ⟨w.heap.size, 0, none⟩) (by simp), cell_of_row _ _ _ _ _ _ (heap_new _ _ _ (by simp))]; rfl
    have d1 : w1.cell? ⟨w.heap.size, 1, none⟩ = some (.int .u64 0) := by rw [hb1.cell (p := ⟨w.heap.size, 1, none⟩) (by simp), cell_of_row _ _ _ _ _ _ (heap_new _ _ _ (by simp))]; rfl
    have hb2 : Hid (Below w.heap.size w w1) := (((Below.refl _ _).alloc (Nat.le_refl _) _).trans (hb1.mono (by simp)))
    clear hb1 hr1
    go_wp2
    exact bodyPost_ret (v := .agg #[.int .u64 h', .int .u64 l']) (by simp [results, Tryz.results67, go_sem, *]) rfl ⟨_, _, rfl, HR1.out, (hb2.out.setCell (p := ⟨w.heap.size, 0, none⟩) (by simp) _).setCell (p := ⟨w.heap.size, 1, none⟩) (by simp) _⟩
  · have HR : Hid (Rep (x * y / 18446744073709551616) (x * y % 18446744073709551616) (a * b)) := rep_prod hx1 hy1 (by rw [Int.natCast_mul, show (x : Int) = a by omega, show (y : Int) = b by omega]) hxy
    rw [if_neg h1] at ea
    have qa : decide (a < 0) = false := by simpa using h1
    rw [if_neg h2] at eb
    have qb : decide (b < 0) = false := by simpa using h2
    generalize x * y / 18446744073709551616 = H at HM HR
    generalize x * y % 18446744073709551616 = L at HM HR
    clear en hx hy ha hb hx1 hy1 hxy
    go_enter Tryz.func67, Tryz.ntmps67
    go_wp2_with (go_at_call 101; refine (HM.out _).mono ?_; rintro e w' ⟨rfl, rfl⟩)
    exact bodyPost_ret (v := .agg #[.int .u64 H, .int .u64 L]) (by simp [results, Tryz.results67, go_sem]) rfl ⟨_, _, rfl, HR.out, (Below.refl _ _).alloc (Nat.le_refl _) _⟩

theorem prod_bound {a b : Int} (ha : -9223372036854775808 ≤ a ∧ a ≤ 9223372036854775807) (hb : -9223372036854775808 ≤ b ∧ b ≤ 9223372036854775807) :
    -85070591730234615856620279821087277056 ≤ a * b ∧ a * b ≤ 85070591730234615865843651857942052864 := by
  have up : ∀ x y : Nat, x ≤ 9223372036854775808 → y ≤ 9223372036854775808 → x * y ≤ 85070591730234615865843651857942052864 := fun x y h1 h2 => Nat.le_trans (Nat.mul_le_mul h1 h2) (by decide)
  have lo : ∀ x y : Nat, x ≤ 9223372036854775808 → y ≤ 9223372036854775807 → x * y ≤ 85070591730234615856620279821087277056 := fun x y h1 h2 => Nat.le_trans (Nat.mul_le_mul h1 h2) (by decide)
  by_cases h1 : a < 0 <;> by_cases h2 : b < 0
  · have e : a * b = ((a.natAbs * b.natAbs : Nat) : Int) := by rw [Int.natCast_mul, show (a.natAbs : Int) = -a by omega, show (b.natAbs : Int) = -b by omega, Int.neg_mul_neg]
    have := up a.natAbs b.natAbs (by omega) (by omega)
    generalize a.natAbs * b.natAbs = n at *
    omega
  · have e : a * b = -((a.natAbs * b.natAbs : Nat) : Int) := by rw [Int.natCast_mul, show (a.natAbs : Int) = -a by omega, show (b.natAbs : Int) = b by omega, Int.neg_mul, Int.neg_neg]
    have := lo a.natAbs b.natAbs (by omega) (by omega)
    generalize a.natAbs * b.natAbs = n at *
    omega
  · have e : a * b = -((b.natAbs * a.natAbs : Nat) : Int) := by rw [Int.natCast_mul, show (a.natAbs : Int) = a by omega, show (b.natAbs : Int) = -b by omega, Int.neg_mul, Int.neg_neg, Int.mul_comm]
    have := lo b.natAbs a.natAbs (by omega) (by omega)
    generalize b.natAbs * a.natAbs = n at *
    omega
  · have e : a * b = ((a.natAbs * b.natAbs : Nat) : Int) := by rw [Int.natCast_mul, show (a.natAbs : Int) = a by omega, show (b.natAbs : Int) = b by omega]
    have := up a.natAbs b.natAbs (by omega) (by omega)
    generalize a.natAbs * b.natAbs = n at *
    omega
/-- A new block of two numbers, a call behind it. -/
theorem pair_kept {w w' : World} {x y : Value} {t : TypeId} (hb : Below (w.alloc (.cells #[x, y] t)).heap.size (w.alloc (.cells #[x, y] t)) w') :
    w'.cell? ⟨w.heap.size, 0, none⟩ = some x ∧ w'.cell? ⟨w.heap.size, 1, none⟩ = some y ∧ w.heap.size < w'.heap.size := by
  have hz := hb.size
  exact ⟨cell_kept hb 0 _ rfl, cell_kept hb 1 _ rfl, by simp at hz; omega⟩
end Go.Proofs.YtdbfimdcaacjhaaGreat
/- Plain laws: numbers of the lattice, the nearest to a fraction, parents and what is left. -/
namespace Go.Proofs.YtdbfimdcaacjhaaGreat
abbrev E2 := Int × Int
end Go.Proofs.YtdbfimdcaacjhaaGreat
namespace Go.Proofs.YtdbfimdcaacjhaaGreat.Wd
def mulE (x y : E2) : E2 := (x.1 * y.1 - x.2 * y.2, x.1 * y.2 + x.2 * y.1 + x.2 * y.2)
def addE (x y : E2) : E2 := (x.1 + y.1, x.2 + y.2)
def subE (x y : E2) : E2 := (x.1 - y.1, x.2 - y.2)
/-- The six that are nearest to nought. -/
def unitE : Nat → E2
  | 0 => (1, 0)
  | 1 => (0, 1)
  | 2 => (-1, 1)
  | 3 => (-1, 0)
  | 4 => (0, -1)
  | _ => (1, -1)
/-- What is left, by its number: nought, or a unit. -/
def leftE : Nat → E2
  | 0 => (0, 0)
  | k + 1 => unitE k
/-- Which corner of a cell of the lattice is nearest to (s, t), of [0, d): the first of those. -/
def cornerE (s t d : Int) : E2 :=
  if 2 * s + t ≤ d ∧ s + 2 * t ≤ d then (0, 0)
  else if s + 2 * t ≥ d ∧ s ≤ t ∧ 2 * s + t ≤ 2 * d then (0, 1)
  else if 2 * s + t ≥ d ∧ s + 2 * t ≤ 2 * d ∧ t ≤ s then (1, 0)
  else (1, 1)
/-- The nearest to a fraction. -/
def roundE (u : E2) (d : Int) : E2 := addE (u.1 / d, u.2 / d) (cornerE (u.1 % d) (u.2 % d) d)
/-- As the program finds it: the first of the least. -/
def bestE (s t d : Int) : E2 :=
  let f1 := d - (s + 2 * t)
  let f2 := d - (2 * s + t)
  let f3 := 3 * d - (2 * s + t) - (s + 2 * t)
  let b1 : Int × E2 := if f1 < 0 then (f1, (0, 1)) else (0, (0, 0))
  let b2 : Int × E2 := if f2 < b1.1 then (f2, (1, 0)) else b1
  let b3 : Int × E2 := if f3 < b2.1 then (f3, (1, 1)) else b2
  b3.2
theorem best_corner {s t d : Int} (_hs : 0 ≤ s) (_hs1 : s < d) (ht : 0 ≤ t) (_ht1 : t < d) : bestE s t d = cornerE s t d := by
  unfold bestE cornerE
  simp only
  by_cases h1 : d - (s + 2 * t) < 0
  · rw [if_pos h1]
    by_cases h2 : d - (2 * s + t) < d - (s + 2 * t)
    · rw [if_pos h2]
      by_cases h3 : 3 * d - (2 * s + t) - (s + 2 * t) < d - (2 * s + t)
      · rw [if_pos h3]
        rw [if_neg (by omega), if_neg (by omega), if_neg (by omega)]
      · rw [if_neg h3]
        rw [if_neg (by omega), if_neg (by omega), if_pos (by omega)]
    · rw [if_neg h2]
      by_cases h3 : 3 * d - (2 * s + t) - (s + 2 * t) < d - (s + 2 * t)
      · rw [if_pos h3]
        rw [if_neg (by omega), if_neg (by omega), if_neg (by omega)]
      · rw [if_neg h3]
        rw [if_neg (by omega), if_pos (by omega)]
  · rw [if_neg h1]
    by_cases h2 : d - (2 * s + t) < 0
    · rw [if_pos h2]
      by_cases h3 : 3 * d - (2 * s + t) - (s + 2 * t) < d - (2 * s + t)
      · rw [if_pos h3]
        rw [if_neg (by omega), if_neg (by omega), if_neg (by omega)]
      · rw [if_neg h3]
        rw [if_neg (by omega), if_neg (by omega), if_pos (by omega)]
    · rw [if_neg h2]
      by_cases h3 : 3 * d - (2 * s + t) - (s + 2 * t) < 0
      · omega
      · rw [if_neg h3]
        rw [if_pos (by omega)]
/-- As the document finds it: the first of those that are as near as any. -/
def nearB (s t d : Int) : Bool := decide (-d ≤ 2 * s + t) && decide (2 * s + t ≤ d) && decide (-d ≤ s + 2 * t) && decide (s + 2 * t ≤ d) && decide (-d ≤ s - t) && decide (s - t ≤ d)
theorem near_first {s t d : Int} (hs : 0 ≤ s) (hs1 : s < d) (ht : 0 ≤ t) (ht1 : t < d) (i k : Int) (hi : -1 ≤ i) (hi2 : i ≤ 2) (hk : -1 ≤ k) (hk2 : k ≤ 2) :
    ((i < (cornerE s t d).1 ∨ (i = (cornerE s t d).1 ∧ k < (cornerE s t d).2)) → nearB (s - i * d) (t - k * d) d = false) ∧ ((i, k) = cornerE s t d → nearB (s - i * d) (t - k * d) d = true) := by
  rcases (show i = -1 ∨ i = 0 ∨ i = 1 ∨ i = 2 by omega) with rfl | rfl | rfl | rfl <;> rcases (show k = -1 ∨ k = 0 ∨ k = 1 ∨ k = 2 by omega) with rfl | rfl | rfl | rfl <;>
    · unfold cornerE nearB
      constructor
      · intro h
        simp only [Bool.and_eq_false_iff, decide_eq_false_iff_not]
        split at h
        · simp only at h; omega
        · split at h
          · simp only at h; omega
          · split at h
            · simp only at h; omega
            · simp only at h; omega
      · intro h
        simp only [Bool.and_eq_true, decide_eq_true_eq]
        split at h
        · simp only [Prod.mk.injEq] at h; omega
        · split at h
          · simp only [Prod.mk.injEq] at h; omega
          · split at h
            · simp only [Prod.mk.injEq] at h; omega
            · simp only [Prod.mk.injEq] at h; omega
/-- Which of its parent's a cell is, and the parent's number. -/
def digE (z : E2) : Nat :=
  if (z.1 + 5 * z.2) % 7 = 0 then 0 else if (z.1 + 5 * z.2) % 7 = 1 then 1 else if (z.1 + 5 * z.2) % 7 = 5 then 2 else if (z.1 + 5 * z.2) % 7 = 4 then 3 else if (z.1 + 5 * z.2) % 7 = 6 then 4 else if (z.1 + 5 * z.2) % 7 = 2 then 5 else 6
def upE (z : E2) : E2 := ((3 * (z.1 - (leftE (digE z)).1) + (z.2 - (leftE (digE z)).2)) / 7, (2 * (z.2 - (leftE (digE z)).2) - (z.1 - (leftE (digE z)).1)) / 7)
/-- The cell within one, by a number. -/
def downE (q : E2) (d : Nat) : E2 := addE (mulE q (2, 1)) (leftE d)
theorem downE_eq (q : E2) (d : Nat) : downE q d = (2 * q.1 - q.2 + (leftE d).1, q.1 + 3 * q.2 + (leftE d).2) := by
  unfold downE addE mulE
  ext <;> simp only <;> omega
theorem left_cases {d : Nat} (h : d < 7) : (d = 0 ∧ leftE d = (0, 0)) ∨ (d = 1 ∧ leftE d = (1, 0)) ∨ (d = 2 ∧ leftE d = (0, 1)) ∨ (d = 3 ∧ leftE d = (-1, 1)) ∨ (d = 4 ∧ leftE d = (-1, 0)) ∨ (d = 5 ∧ leftE d = (0, -1)) ∨ (d = 6 ∧ leftE d = (1, -1)) := by
  rcases (show d = 0 ∨ d = 1 ∨ d = 2 ∨ d = 3 ∨ d = 4 ∨ d = 5 ∨ d = 6 by omega) with rfl | rfl | rfl | rfl | rfl | rfl | rfl <;> simp [leftE, unitE]
theorem digE_lt (z : E2) : digE z < 7 := by
  unfold digE
  repeat (split; · omega)
  omega
theorem digE_down (q : E2) {d : Nat} (h : d < 7) : digE (downE q d) = d := by
  rw [downE_eq]
  unfold digE
  rcases left_cases h with ⟨rfl, e⟩ | ⟨rfl, e⟩ | ⟨rfl, e⟩ | ⟨rfl, e⟩ | ⟨rfl, e⟩ | ⟨rfl, e⟩ | ⟨rfl, e⟩ <;> rw [e] <;> simp only
  · rw [if_pos (by omega)]
  · rw [if_neg (by omega), if_pos (by omega)]
  · rw [if_neg (by omega), if_neg (by omega), if_pos (by omega)]
  · rw [if_neg (by omega), if_neg (by omega), if_neg (by omega), if_pos (by omega)]
  · rw [if_neg (by omega), if_neg (by omega), if_neg (by omega), if_neg (by omega), if_pos (by omega)]
  · rw [if_neg (by omega), if_neg (by omega), if_neg (by omega), if_neg (by omega), if_neg (by omega), if_pos (by omega)]
  · rw [if_neg (by omega), if_neg (by omega), if_neg (by omega), if_neg (by omega), if_neg (by omega), if_neg (by omega)]
theorem upE_down (q : E2) {d : Nat} (h : d < 7) : upE (downE q d) = q := by
  unfold upE
  rw [digE_down q h, downE_eq]
  generalize leftE d = l
  ext <;> simp only <;> omega
theorem down_up (z : E2) : downE (upE z) (digE z) = z := by
  rw [downE_eq]
  unfold upE
  have hl := left_cases (digE_lt z)
  have hd : digE z = if (z.1 + 5 * z.2) % 7 = 0 then 0 else if (z.1 + 5 * z.2) % 7 = 1 then 1 else if (z.1 + 5 * z.2) % 7 = 5 then 2 else if (z.1 + 5 * z.2) % 7 = 4 then 3 else if (z.1 + 5 * z.2) % 7 = 6 then 4 else if (z.1 + 5 * z.2) % 7 = 2 then 5 else 6 := rfl
  generalize digE z = d at *
  obtain ⟨a, b⟩ := z
  simp only at *
  rcases hl with ⟨rfl, e⟩ | ⟨rfl, e⟩ | ⟨rfl, e⟩ | ⟨rfl, e⟩ | ⟨rfl, e⟩ | ⟨rfl, e⟩ | ⟨rfl, e⟩ <;> rw [e] <;> ext <;> simp only <;> split at hd <;> (try omega) <;> split at hd <;> (try omega) <;> split at hd <;> (try omega) <;> split at hd <;> (try omega) <;> split at hd <;> (try omega) <;> split at hd <;> omega
/-- The parent is the nearest to a seventh of z times (3, -1). -/
theorem round_up (z : E2) : roundE (mulE z (3, -1)) 7 = upE z := by
  have h := down_up z
  have hl := left_cases (digE_lt z)
  generalize upE z = q at *
  generalize digE z = d at *
  rw [downE_eq] at h
  subst h
  unfold roundE mulE cornerE addE
  rcases hl with ⟨_, e⟩ | ⟨_, e⟩ | ⟨_, e⟩ | ⟨_, e⟩ | ⟨_, e⟩ | ⟨_, e⟩ | ⟨_, e⟩ <;> rw [e] <;> ext <;> simp only <;> (repeat' split) <;> simp only <;> omega
end Go.Proofs.YtdbfimdcaacjhaaGreat.Wd
/- The second law for a region that draws its order: each operation is looked at ONCE, from whatever world it may meet; what it leaves must outlast what the others do. -/
namespace Go.Proofs.YtdbfimdcaacjhaaGreat
open Go

section
variable {P : Program} {ops : Array Oper}

/-- What an operation leaves: a value in its slot. -/
def Leaves (a : Act) (dst : Option Tmp) (S : Value → World → Prop) : Exit → Act → World → Prop
  | .normal, a', w' => ∃ v, a' = a.put dst v ∧ S v w'
  | _, _, _ => False
theorem Leaves.lets {a : Act} {dst : Option Tmp} {S : Value → World → Prop} : ¬ LetsOut (Leaves a dst S) := fun ⟨_, _, h⟩ => h

def stepV (P : Program) (ops : Array Oper) (o : Oper) (S : Value → World → Prop) (a : Act) (w : World) : Prop :=
  if Region.wanted o (yielded ops a.tmps) = true then o.wp P a w (Leaves a o.dst S .normal) (Only fun _ _ => False) else Leaves a o.dst S .normal (a.put o.dst undef) w

theorem wp_leaves {o : Oper} {a b : Act} {dst : Option Tmp} {S : Value → World → Prop} {w : World} {next : Act → World → Prop} (h : o.wp P a w next (Leaves b dst S)) : o.wp P a w next (Only fun _ _ => False) := by
  unfold Oper.wp at *
  generalize (execOp a.eval o).run P w = r at *
  cases r with
  | ok n w' =>
    cases n <;> simp only [Oper.upon] at h ⊢
    case enter f args =>
      refine Calls.mono h fun e w'' he => ?_
      cases e with
      | returned v => exact he
      | panicked c => exact he
      | outgrown => exact (Leaves.lets he).elim
    all_goals exact h
  | halt x w' =>
    cases x <;> simp only [Oper.upon] at h ⊢
    case panic v => exact h

theorem stepV_of_list {o : Oper} {S : Value → World → Prop} {a : Act} {w : World} (h : wpList P ops (Leaves a o.dst S) [o] a w) : stepV P ops o S a w := by
  simp only [wpList] at h
  unfold stepV
  split
  · rename_i hw
    rw [if_pos hw] at h
    rcases h with h | ⟨_, h⟩
    · exact wp_leaves h
    · exact (Leaves.lets h).elim
  · rename_i hw
    rw [if_neg hw] at h
    exact h

theorem put_defers' (a : Act) (dst : Option Tmp) (v : Value) : (a.put dst v).defers = a.defers := by cases dst <;> rfl
theorem put_eq {a c : Act} {dst : Option Tmp} {v u : Value} (h : c.put dst v = c.put dst u) (hs : a.tmps.size = c.tmps.size) : a.put dst v = a.put dst u := by
  cases dst with
  | none => rfl
  | some d =>
    by_cases hd : d < c.tmps.size
    · have h1 := congrArg (fun x : Act => x.tmps[d]?) h
      simp [Act.put, hd] at h1
      rw [h1]
    · have hd' : ¬ d < a.tmps.size := by rw [hs]; exact hd
      simp [Act.put, Array.setIfInBounds, hd']

theorem wanted_same {o : Oper} {a c : Act} (he : ∀ d ∈ o.looksAt ops, a.tmps[d]? = c.tmps[d]?) : Region.wanted o (yielded ops a.tmps) = Region.wanted o (yielded ops c.tmps) := by
  unfold Region.wanted
  cases hg : o.guard with
  | none => rfl
  | some gw =>
    obtain ⟨g, want⟩ := gw
    have hy : yielded ops a.tmps g = yielded ops c.tmps g := by
      unfold yielded
      cases ht : (ops[g]?).bind (·.dst) with
      | none => rfl
      | some t =>
        have := he t (by simp [Oper.looksAt, hg, ht])
        simp [this]
    simp only [hy]
theorem exec_same {o : Oper} {a c : Act} (hs : ∀ cs b, o.op ≠ .select cs b) (he : ∀ d ∈ o.looksAt ops, a.tmps[d]? = c.tmps[d]?) : execOp a.eval o = execOp c.eval o :=
  execOp_congr o hs fun x hx => by
    cases x with
    | tmp t =>
      have := he t (List.mem_append_left _ (List.mem_filterMap.2 ⟨.tmp t, by simpa using hx, rfl⟩))
      simp only [Act.eval, Array.getD_eq_getD_getElem?, this]
    | _ => rfl

theorem stepV_congr {o : Oper} {S : Value → World → Prop} {a c : Act} {w : World} (hs : ∀ cs b, o.op ≠ .select cs b) (hz : a.tmps.size = c.tmps.size) (he : ∀ d ∈ o.looksAt ops, a.tmps[d]? = c.tmps[d]?)
    (h : stepV P ops o S c w) : stepV P ops o S a w := by
  have tr : ∀ v w', Leaves c o.dst S .normal (c.put o.dst v) w' → Leaves a o.dst S .normal (a.put o.dst v) w' := fun v w' ⟨u, e, hu⟩ => ⟨u, put_eq e hz, hu⟩
  unfold stepV at *
  rw [wanted_same he]
  split
  · rename_i hw
    rw [if_pos hw] at h
    unfold Oper.wp at *
    rw [exec_same hs he]
    generalize (execOp c.eval o).run P w = r at *
    cases r with
    | ok n w' =>
      cases n <;> simp only [Oper.upon] at h ⊢
      case value v => exact tr _ _ h
      case skip => exact tr _ _ h
      case defer d =>
        exfalso
        obtain ⟨u, e, _⟩ := h
        have := congrArg (fun x : Act => x.defers.length) e
        simp [put_defers'] at this
      case enter f args =>
        refine Calls.mono h fun e w'' he => ?_
        cases e with
        | returned v => exact tr _ _ he
        | panicked c => exact he
        | outgrown => exact he
      case row row args => exact Rows.mono h fun u w'' he => tr _ _ he
    | halt x w' =>
      cases x <;> simp only [Oper.upon] at h ⊢
      case panic v => exact h
  · rename_i hw
    rw [if_neg hw] at h
    exact tr _ _ h

theorem stepV_wpOp {i : Nat} {o : Oper} (ho : ops[i]? = some o) {S : Value → World → Prop} {a : Act} {w : World} {n K : Act → World → Prop} (hn : ∀ v w', S v w' → n (a.put o.dst v) w') (h : stepV P ops o S a w) : wpOp P ops (Only K) i n a w := by
  unfold Go.wpOp
  simp only [ho]
  unfold stepV at h
  split
  · rename_i hw
    rw [if_pos hw] at h
    exact .inl (only_wp (Oper.wp_mono (fun a' w' ⟨v, e, hs⟩ => by rw [e]; exact hn v w' hs) h))
  · rename_i hw
    rw [if_neg hw] at h
    obtain ⟨v, e, hs⟩ := h
    rw [e]
    exact hn v w hs

/-! ### The acts on the way -/
/-- The act after the operations in D have left their values. -/
def fillD (D : Nat → Bool) (V : Nat → Value) : List Oper → Nat → Act → Act
  | [], _, a => a
  | o :: r, i, a => fillD D V r (i + 1) (if D i then a.put o.dst (V i) else a)

theorem put_size (a : Act) (dst : Option Tmp) (v : Value) : (a.put dst v).tmps.size = a.tmps.size := by cases dst <;> simp [Act.put]
theorem fill_size (D : Nat → Bool) (V : Nat → Value) : ∀ (l : List Oper) (i : Nat) (a : Act), (fillD D V l i a).tmps.size = a.tmps.size
  | [], _, _ => rfl
  | o :: r, i, a => by
    unfold fillD
    rw [fill_size D V r]
    split
    · exact put_size _ _ _
    · rfl
theorem fill_none (D : Nat → Bool) (V : Nat → Value) : ∀ (l : List Oper) (i : Nat) (a : Act), (∀ j, i ≤ j → D j = false) → fillD D V l i a = a
  | [], _, _, _ => rfl
  | o :: r, i, a, h => by
    unfold fillD
    rw [h i (Nat.le_refl _), if_neg (by simp)]
    exact fill_none D V r _ _ fun j hj => h j (by omega)
theorem fill_congr (D D' : Nat → Bool) (V V' : Nat → Value) : ∀ (l : List Oper) (i : Nat) (a : Act), (∀ j, i ≤ j → j < i + l.length → D j = D' j ∧ (D j = true → V j = V' j)) → fillD D V l i a = fillD D' V' l i a
  | [], _, _, _ => rfl
  | o :: r, i, a, h => by
    unfold fillD
    obtain ⟨h1, h2⟩ := h i (Nat.le_refl _) (by simp)
    have e : (if D i = true then a.put o.dst (V i) else a) = if D' i = true then a.put o.dst (V' i) else a := by
      rw [← h1]
      split
      · rename_i hd; rw [h2 hd]
      · rfl
    rw [e]
    exact fill_congr D D' V V' r _ _ fun j hj hl => h j (by omega) (by simp; omega)
/-- Where no operation of D writes, and where both have the same, the acts agree. -/
theorem fill_at (D D' : Nat → Bool) (V : Nat → Value) (s : Nat) : ∀ (l : List Oper) (i : Nat) (a b : Act), a.tmps.size = b.tmps.size → a.tmps[s]? = b.tmps[s]? →
    (∀ j o, l[j]? = some o → o.dst = some s → D (i + j) = D' (i + j)) → (fillD D V l i a).tmps[s]? = (fillD D' V l i b).tmps[s]?
  | [], _, _, _, _, h, _ => h
  | o :: r, i, a, b, hz, h, hd => by
    unfold fillD
    refine fill_at D D' V s r _ _ _ ?_ ?_ fun j o' hj ho => by
      have := hd (j + 1) o' (by simpa using hj) ho
      rw [show i + 1 + j = i + (j + 1) from by omega]; exact this
    · split <;> split <;> simp [put_size, hz]
    · by_cases hs : o.dst = some s
      · have e := hd 0 o rfl hs
        rw [Nat.add_zero] at e
        rw [← e]
        split
        · rw [hs]
          by_cases hlt : s < a.tmps.size
          · have : s < b.tmps.size := by omega
            simp [Act.put, hlt, this]
          · have : ¬ s < b.tmps.size := by omega
            simp [Act.put, Array.setIfInBounds, hlt, this]
        · exact h
      · have keep : ∀ (a : Act) (v : Value), (a.put o.dst v).tmps[s]? = a.tmps[s]? := fun a v => by
          cases ho : o.dst with
          | none => rfl
          | some d =>
            have hne : d ≠ s := fun e => hs (by rw [ho, e])
            simp [Act.put, Array.getElem?_setIfInBounds_ne hne]
        split <;> split <;> simp [keep, h]
theorem fill_put (D : Nat → Bool) (V : Nat → Value) (dst : Option Tmp) (v : Value) : ∀ (l : List Oper) (i : Nat) (a : Act), (∀ o ∈ l, ∀ d, dst = some d → o.dst ≠ some d) →
    (fillD D V l i a).put dst v = fillD D V l i (a.put dst v)
  | [], _, _, _ => rfl
  | o :: r, i, a, h => by
    unfold fillD
    rw [fill_put D V dst v r _ _ fun o' ho => h o' (by simp [ho])]
    congr 1
    split
    · exact Act.put_comm _ _ _ fun d hd he => h o (by simp) d he hd
    · rfl
theorem fill_take (D : Nat → Bool) (V : Nat → Value) (v : Value) : ∀ (l : List Oper) (i : Nat) (a : Act) (k : Nat) (o : Oper), l[k]? = some o → D (i + k) = false →
    (∀ q o', l[q]? = some o' → q ≠ k → ∀ d, o.dst = some d → o'.dst ≠ some d) →
    (fillD D V l i a).put o.dst v = fillD (fun j => if j = i + k then true else D j) (fun j => if j = i + k then v else V j) l i a
  | [], _, _, _, _, h, _, _ => by simp at h
  | x :: r, i, a, 0, o, h, hD, hd => by
    obtain rfl : x = o := by simpa using h
    rw [Nat.add_zero] at hD ⊢
    unfold fillD
    rw [hD, if_neg (by simp), fill_put D V _ _ r _ _ fun o' ho d hd1 => by
      obtain ⟨q, hq⟩ := List.mem_iff_getElem?.1 ho
      exact hd (q + 1) o' (by simpa using hq) (by omega) d hd1]
    simp only [if_true]
    exact fill_congr _ _ _ _ r _ _ fun j hj _ => by
      rw [if_neg (by omega), if_neg (by omega)]; exact ⟨rfl, fun _ => rfl⟩
  | x :: r, i, a, k + 1, o, h, hD, hd => by
    unfold fillD
    rw [fill_take D V v r (i + 1) _ k o (by simpa using h) (by rw [show i + 1 + k = i + (k + 1) from by omega]; exact hD) fun q o' hq hne d hd1 => hd (q + 1) o' (by simpa using hq) (by omega) d hd1]
    rw [show i + 1 + k = i + (k + 1) from by omega]
    congr 1
    rw [if_neg (show ¬ i = i + (k + 1) by omega), if_neg (show ¬ i = i + (k + 1) by omega)]

/-- What must be done ahead. -/
def needs (o : Oper) (j : Nat) : Bool := o.after.toList.any fun e => Region.binds .any e && e.on == j
/-- Each operation once, in the order of the text, from whatever world it may meet. -/
def invList (P : Program) (ops : Array Oper) (G : World → World → Prop) (w0 : World) (R : Nat → Value → World → Prop) (K : Act → World → Prop) : List Oper → List Value → Act → Prop
  | [], vs, a => ∀ w, G w0 w → (∀ j, j < vs.length → R j (vs.getD j undef) w) → K a w
  | o :: r, vs, a => (∀ w, G w0 w → (∀ j, j < vs.length → needs o j = true → R j (vs.getD j undef) w) → wpList P ops (Leaves a o.dst fun v w' => G w w' ∧ R vs.length v w') [o] a w) ∧
      ∀ v, invList P ops G w0 R K r (vs ++ [v]) (a.put o.dst v)

theorem range_snoc (V : Nat → Value) (m : Nat) : (List.range m).map V ++ [V m] = (List.range (m + 1)).map V := by rw [List.range_succ]; simp
theorem range_get (V : Nat → Value) {m j : Nat} (h : j < m) : ((List.range m).map V).getD j undef = V j := by simp [List.getD_eq_getElem?_getD, h]

theorem inv_at {G : World → World → Prop} {w0 : World} {R : Nat → Value → World → Prop} {K : Act → World → Prop} (V : Nat → Value) : ∀ (r : List Oper) (m : Nat) (a : Act), invList P ops G w0 R K r ((List.range m).map V) a →
    (∀ k o, r[k]? = some o → ∀ w, G w0 w → (∀ j, j < m + k → needs o j = true → R j (V j) w) →
      wpList P ops (Leaves (fillD (fun j => decide (j < m + k)) V r m a) o.dst fun v w' => G w w' ∧ R (m + k) v w') [o] (fillD (fun j => decide (j < m + k)) V r m a) w) ∧
    (∀ w, G w0 w → (∀ j, j < m + r.length → R j (V j) w) → K (fillD (fun _ => true) V r m a) w)
  | [], m, a, h => ⟨fun k o hk => by simp at hk, fun w hg hr => h w hg fun j hj => by
      have hj' : j < m := by simpa using hj
      rw [range_get V hj']; exact hr j (by simpa using hj')⟩
  | o :: r, m, a, h => by
    obtain ⟨h1, h2⟩ := h
    have h3 := h2 (V m)
    rw [range_snoc] at h3
    obtain ⟨i1, i2⟩ := inv_at V r (m + 1) _ h3
    refine ⟨fun k o' hk w hg hr => ?_, fun w hg hr => ?_⟩
    · cases k with
      | zero =>
        obtain rfl : o = o' := by simpa using hk
        rw [Nat.add_zero] at hr ⊢
        rw [fill_none _ _ _ _ _ fun j hj => by simp; omega]
        have := h1 w hg fun j hj hn => by
          have hj' : j < m := by simpa using hj
          rw [range_get V hj']; exact hr j hj' hn
        simpa using this
      | succ k =>
        have := i1 k o' (by simpa using hk) w hg fun j hj hn => hr j (by omega) hn
        rw [show m + 1 + k = m + (k + 1) from by omega] at this
        have e : fillD (fun j => decide (j < m + (k + 1))) V (o :: r) m a = fillD (fun j => decide (j < m + (k + 1))) V r (m + 1) (a.put o.dst (V m)) := by
          show fillD _ V r (m + 1) _ = _
          rw [if_pos (by simp)]
        rw [e]
        exact this
    · have := i2 w hg fun j hj => hr j (by simp; omega)
      exact this

/-- The closed look. -/
def invB (ops : Array Oper) : Bool :=
  Region.noSelect ops && (List.range ops.size).all fun i => match ops[i]? with
    | none => true
    | some oi =>
      (oi.after.toList.all fun e => !Region.binds .any e || decide (e.on < i)) &&
      (List.range ops.size).all fun q => q == i || match (ops[q]?).bind (·.dst) with
        | none => true
        | some d => oi.dst != some d && (!(oi.looksAt ops).contains d || (decide (q < i) && needs oi q) || (decide (i < q) && ((waits ops.toList []).getD q 0).testBit i))

theorem rem_nil (hback : ∀ i oi, ops[i]? = some oi → ∀ e ∈ oi.after, Region.binds .any e = true → e.on < i) (listed : Array Bool) (hs : listed.size = ops.size) (hr : Region.ready .any ops listed = []) : ∀ i, i < ops.size → listed.getD i false = true := by
  intro i
  induction i using Nat.strongRecOn with
  | _ i ih =>
    intro hi
    by_cases hd : listed.getD i false = true
    · exact hd
    · exfalso
      have : i ∈ Region.ready .any ops listed := mem_ready.2 ⟨by
        have : i < listed.size := by omega
        simp [this] at hd ⊢; exact hd, _, Array.getElem?_eq_getElem hi, fun e he hb => by
          have hlt := hback i _ (Array.getElem?_eq_getElem hi) e he hb
          exact ih e.on hlt (by omega)⟩
      rw [hr] at this
      cases this

theorem inv_any {l : List Oper} {G : World → World → Prop} {w0 : World} {R : Nat → Value → World → Prop} {K : Act → World → Prop} {a0 : Act} (hB : invB l.toArray = true)
    (Gt : ∀ w w1 w2, G w w1 → G w1 w2 → G w w2) (mono : ∀ i v w w', G w0 w → G w w' → R i v w → R i v w')
    (h : invList P l.toArray G w0 R K l [] a0) :
    ∀ (fuel : Nat) (listed : Array Bool) (V : Nat → Value) (w : World), listed.size = l.length → Closed l.toArray listed → G w0 w → (∀ j, listed.getD j false = true → R j (V j) w) →
    (rem l.toArray listed).length ≤ fuel → wpAny P .any l.toArray (Only K) fuel listed (fillD (fun j => listed.getD j false) V l 0 a0) w := by
  unfold invB at hB
  simp only [Bool.and_eq_true, List.all_eq_true, List.mem_range] at hB
  obtain ⟨hsel, hB⟩ := hB
  have hB' : ∀ i oi, l.toArray[i]? = some oi → _ := fun i oi hi => by
    have := hB i (Array.getElem?_eq_some_iff.1 hi).1
    simp only [hi, Bool.and_eq_true, List.all_eq_true, List.mem_range] at this
    exact this
  have hback : ∀ i oi, l.toArray[i]? = some oi → ∀ e ∈ oi.after, Region.binds .any e = true → e.on < i := fun i oi hi e he hb => by
    have := (hB' i oi hi).1 e (by simpa using he)
    simpa [hb] using this
  have htr : Truth l.toArray (waits l.toArray.toList []) := waits_truth hback l.toArray.toList [] (fun j => by simp) (fun i t hi => by simp at hi)
  have hlen : (waits l.toArray.toList []).length = l.length := by rw [waits_length]; simp
  have hall : ∀ listed : Array Bool, listed.size = l.length → Region.ready .any l.toArray listed = [] → ∀ i, i < l.length → listed.getD i false = true := fun listed hs hr i hi =>
    rem_nil hback listed (by simpa using hs) hr i (by simpa using hi)
  have hend : ∀ (listed : Array Bool) (V : Nat → Value) (w : World), (∀ i, i < l.length → listed.getD i false = true) → G w0 w → (∀ j, listed.getD j false = true → R j (V j) w) →
      K (fillD (fun j => listed.getD j false) V l 0 a0) w := fun listed V w hd hg hr => by
    have := (inv_at V l 0 a0 h).2 w hg fun j hj => hr j (hd j (by simpa using hj))
    rw [fill_congr _ (fun _ => true) V V l 0 a0 fun j _ hj => ⟨hd j (by simpa using hj), fun _ => rfl⟩]
    exact this
  intro fuel
  induction fuel with
  | zero =>
    intro listed V w hs hcl hg hr hf
    have hnil : rem l.toArray listed = [] := List.eq_nil_of_length_eq_zero (by omega)
    have hd : ∀ i, i < l.length → listed.getD i false = true := fun i hi => by
      by_cases hd : listed.getD i false = true
      · exact hd
      · exfalso
        have : i ∈ rem l.toArray listed := mem_rem.2 ⟨by simpa using hi, by
          have : i < listed.size := by omega
          simp [this] at hd ⊢; exact hd⟩
        rw [hnil] at this
        cases this
    refine ⟨?_, hend listed V w hd hg hr⟩
    cases hrd : Region.ready .any l.toArray listed with
    | nil => rfl
    | cons i q =>
      have hi : i ∈ Region.ready .any l.toArray listed := by rw [hrd]; simp
      obtain ⟨hun, o, ho, _⟩ := mem_ready.1 hi
      have : i ∈ rem l.toArray listed := mem_rem.2 ⟨(Array.getElem?_eq_some_iff.1 ho).1, hun⟩
      rw [hnil] at this
      cases this
  | succ fuel ih =>
    intro listed V w hs hcl hg hr hf
    refine ⟨fun hrd => hend listed V w (hall listed hs hrd) hg hr, fun i hi => ?_⟩
    obtain ⟨hun, o, ho, hdone⟩ := mem_ready.1 hi
    have hlt : i < l.toArray.size := (Array.getElem?_eq_some_iff.1 ho).1
    have hltl : i < l.length := by simpa using hlt
    have hlis : i < listed.size := by omega
    have hun' : listed.getD i false = false := by simp [hlis] at hun ⊢; exact hun
    have hol : l[i]? = some o := by simpa using ho
    have hst := (inv_at V l 0 a0 h).1 i o hol w hg fun j hj hn => by
      refine hr j ?_
      unfold needs at hn
      simp only [List.any_eq_true, Bool.and_eq_true, beq_iff_eq] at hn
      obtain ⟨e, he, hb, rfl⟩ := hn
      exact hdone e (by simpa using he) hb
    rw [Nat.zero_add] at hst
    have hsel' : ∀ cs b, o.op ≠ .select cs b := by
      intro cs b hc
      unfold Region.noSelect at hsel
      simp only [Array.all_eq_true] at hsel
      have := hsel i (by simpa using hlt)
      rw [(Array.getElem?_eq_some_iff.1 ho).2] at this
      rw [hc] at this
      simp at this
    have hsv := stepV_congr (a := fillD (fun j => listed.getD j false) V l 0 a0) hsel' (by rw [fill_size, fill_size]) (fun d hd => ?_) (stepV_of_list hst)
    · refine stepV_wpOp ho ?_ hsv
      rintro v w' ⟨hgw, hR⟩
      rw [fill_take (fun j => listed.getD j false) V v l 0 a0 i o hol (by rw [Nat.zero_add]; exact hun') fun q o' hq hne d hd1 hd2 => by
        have h1 := (hB' i o ho).2 q (by have := (List.getElem?_eq_some_iff.1 hq).1; simpa using this)
        have hq' : l.toArray[q]? = some o' := by simpa using hq
        simp [hne, hq', hd2, hd1] at h1]
      have hcl' := hcl.set hi
      have e : (fun j => if j = 0 + i then true else listed.getD j false) = fun j => (listed.setIfInBounds i true).getD j false := by
        funext j
        rw [Nat.zero_add]
        by_cases hj : j = i
        · subst hj; simp [hlis]
        · rw [if_neg hj, getD_set_ne false (fun e => hj e.symm)]
      rw [e]
      refine ih _ _ w' (by simpa using hs) hcl' (Gt _ _ _ hg hgw) (fun j hj => ?_) ?_
      · rw [Nat.zero_add]
        by_cases hji : j = i
        · subst hji; rw [if_pos rfl]; exact hR
        · rw [if_neg hji]
          rw [getD_set_ne false (fun e => hji e.symm)] at hj
          exact mono j _ w w' hg hgw (hr j hj)
      · obtain ⟨τ, ρ, e1, e2, _⟩ := rem_split (by simpa using hs) (mem_rem.2 ⟨hlt, hun⟩)
        rw [e2]
        rw [e1] at hf
        simp only [List.length_append, List.length_cons] at hf ⊢
        omega
    · refine fill_at _ _ V d l 0 a0 a0 rfl rfl fun q o' hq hod => ?_
      rw [Nat.zero_add]
      have hq' : l.toArray[q]? = some o' := by simpa using hq
      have hql : q < l.length := (List.getElem?_eq_some_iff.1 hq).1
      by_cases hqi : q = i
      · subst hqi; rw [hun']; simp
      · have h1 := (hB' i o ho).2 q (by simpa using hql)
        have hdc : (o.looksAt l.toArray).contains d = true := by simpa using hd
        simp only [hqi, beq_iff_eq, hq', Option.bind_some, hod, hdc, Bool.not_true, Bool.false_or, Bool.or_eq_true, Bool.and_eq_true, decide_eq_true_eq, false_or] at h1
        rcases h1.2 with ⟨h2, h3⟩ | ⟨h2, h3⟩
        · rw [decide_eq_true h2]
          unfold needs at h3
          simp only [List.any_eq_true, Bool.and_eq_true, beq_iff_eq] at h3
          obtain ⟨e, he, hb, rfl⟩ := h3
          exact hdone e (by simpa using he) hb
        · rw [decide_eq_false (by omega)]
          by_cases hqd : listed.getD q false = true
          · exfalso
            have := htr.listed hcl q o' i (by omega) hq' (fun e he hb => hcl q o' hq' hqd e he hb) h3
            rw [hun'] at this
            cases this
          · simpa using hqd

/-- THE LAW. -/
theorem wp_region_inv {id : Nat} {l : List Oper} {Q : Exit → Act → World → Prop} {a : Act} {w : World} (G : World → World → Prop) (R : Nat → Value → World → Prop) (hm : P.follows .mixedOrders = true) (hB : invB l.toArray = true)
    (Gr : ∀ w, G w w) (Gt : ∀ w w1 w2, G w w1 → G w1 w2 → G w w2) (mono : ∀ i v w1 w2, G w.drew w1 → G w1 w2 → R i v w1 → R i v w2)
    (h : invList P l.toArray G w.drew R (Q .normal) l [] a) : (Code.region id l.toArray true).wp P Q a w := by
  refine Code.wp_mono (Q := Only (Q .normal)) (fun e a w hq => by cases e <;> first | exact hq | exact hq.elim) ?_
  refine wp_region_any hm ?_
  have h0 := inv_any hB Gt mono h l.toArray.size (Array.replicate l.toArray.size false) (fun _ => undef) w.drew (by simp) (fun j oj _ hl => by rw [getD_replicate0] at hl; cases hl) (Gr _) (fun j hj => by rw [getD_replicate0] at hj; cases hj) ?_
  · rw [fill_none] at h0
    · exact h0
    · intro j _; exact getD_replicate0 _ _
  · refine Nat.le_trans (List.length_filter_le _ _) ?_
    simp
end
end Go.Proofs.YtdbfimdcaacjhaaGreat
/- One operation of a region after the other (the law wp_region_inv), by plain lemmas. -/
namespace Go.Proofs.YtdbfimdcaacjhaaGreat
open Go
variable {P : Program} {ops : Array Oper} {G : World → World → Prop} {w0 : World} {R : Nat → Value → World → Prop} {K : Act → World → Prop}
theorem inv_cons {o : Oper} {r : List Oper} {vs : List Value} {a : Act}
    (h1 : ∀ w, G w0 w → (∀ j, j < vs.length → needs o j = true → R j (vs.getD j undef) w) → wpList P ops (Leaves a o.dst fun v w' => G w w' ∧ R vs.length v w') [o] a w)
    (h2 : ∀ v, invList P ops G w0 R K r (vs ++ [v]) (a.put o.dst v)) : invList P ops G w0 R K (o :: r) vs a := ⟨h1, h2⟩
theorem inv_done {vs : List Value} {a : Act} (h : ∀ w, G w0 w → (∀ j, j < vs.length → R j (vs.getD j undef) w) → K a w) : invList P ops G w0 R K [] vs a := h
end Go.Proofs.YtdbfimdcaacjhaaGreat
/- The law for a region that draws its order, where what an operation leaves may be known by a property alone, and where one operation may write what an earlier one has made: nobody may look at that behind it. -/
namespace Go.Proofs.YtdbfimdcaacjhaaGreat
open Go Go.RowKit
section
variable {P : Program} {ops : Array Oper}
/-- Whose value an operation looks at. -/
def uses (o : Oper) (j : Nat) : Bool := o.after.toList.any fun e => Region.binds .any e && e.on == j && (match e.ground with | .data => true | .guard => true | _ => false)
theorem uses_needs {o : Oper} {j : Nat} (h : uses o j = true) : needs o j = true := by
  unfold uses at h
  unfold needs
  rw [List.any_eq_true] at h ⊢
  obtain ⟨e, he, h⟩ := h
  rw [Bool.and_eq_true] at h
  exact ⟨e, he, h.1⟩
/-- Each operation once, in the order of the text, from whatever world it may meet; T i: what operation i may turn; alive j: is told at the end. -/
def invList2 (P : Program) (ops : Array Oper) (G : World → World → Prop) (T : Nat → World → World → Prop) (alive : Nat → Bool) (w0 : World) (R : Nat → Value → World → Prop) (K : Act → World → Prop) : List Oper → List Value → Act → Prop
  | [], vs, a => ∀ w, G w0 w → (∀ j, j < vs.length → alive j = true → R j (vs.getD j undef) w) → K a w
  | o :: r, vs, a => (∀ w, G w0 w → (∀ j, j < vs.length → uses o j = true → R j (vs.getD j undef) w) → wpList P ops (Leaves a o.dst fun v w' => T vs.length w w' ∧ R vs.length v w') [o] a w) ∧
      ∀ v, invList2 P ops G T alive w0 R K r (vs ++ [v]) (a.put o.dst v)
theorem inv2_at {G : World → World → Prop} {T : Nat → World → World → Prop} {alive : Nat → Bool} {w0 : World} {R : Nat → Value → World → Prop} {K : Act → World → Prop} (V : Nat → Value) : ∀ (r : List Oper) (m : Nat) (a : Act), invList2 P ops G T alive w0 R K r ((List.range m).map V) a →
    (∀ k o, r[k]? = some o → ∀ w, G w0 w → (∀ j, j < m + k → uses o j = true → R j (V j) w) →
      wpList P ops (Leaves (fillD (fun j => decide (j < m + k)) V r m a) o.dst fun v w' => T (m + k) w w' ∧ R (m + k) v w') [o] (fillD (fun j => decide (j < m + k)) V r m a) w) ∧
    (∀ w, G w0 w → (∀ j, j < m + r.length → alive j = true → R j (V j) w) → K (fillD (fun _ => true) V r m a) w)
  | [], m, a, h => ⟨fun k o hk => by simp at hk, fun w hg hr => h w hg fun j hj hl => by
      have hj' : j < m := by simpa using hj
      rw [range_get V hj']; exact hr j (by simpa using hj') hl⟩
  | o :: r, m, a, h => by
    obtain ⟨h1, h2⟩ := h
    have h3 := h2 (V m)
    rw [range_snoc] at h3
    obtain ⟨i1, i2⟩ := inv2_at V r (m + 1) _ h3
    refine ⟨fun k o' hk w hg hr => ?_, fun w hg hr => ?_⟩
    · cases k with
      | zero =>
        obtain rfl : o = o' := by simpa using hk
        rw [Nat.add_zero] at hr ⊢
        rw [fill_none _ _ _ _ _ fun j hj => by simp; omega]
        have := h1 w hg fun j hj hn => by
          have hj' : j < m := by simpa using hj
          rw [range_get V hj']; exact hr j hj' hn
        simpa using this
      | succ k =>
        have := i1 k o' (by simpa using hk) w hg fun j hj hn => hr j (by omega) hn
        rw [show m + 1 + k = m + (k + 1) from by omega] at this
        have e : fillD (fun j => decide (j < m + (k + 1))) V (o :: r) m a = fillD (fun j => decide (j < m + (k + 1))) V r (m + 1) (a.put o.dst (V m)) := by
          show fillD _ V r (m + 1) _ = _
          rw [if_pos (by simp)]
        rw [e]
        exact this
    · have := i2 w hg fun j hj hl => hr j (by simp; omega) hl
      exact this
/-- Where place i is a bar, all else comes ahead of it or behind it; and what comes ahead and does not stand for good is looked at by nobody behind it. -/
def barB (ops : Array Oper) (st bar : Nat → Bool) : Bool :=
  (List.range ops.size).all fun i => !bar i || (List.range ops.size).all fun j =>
    (j == i || ((waits ops.toList []).getD i 0).testBit j || ((waits ops.toList []).getD j 0).testBit i || st j) &&
    (st j || !((waits ops.toList []).getD i 0).testBit j || (List.range ops.size).all fun k => match ops[k]? with
      | none => true
      | some ok => !uses ok j || k == i || ((waits ops.toList []).getD i 0).testBit k)
def aliveB (ops : Array Oper) (st bar : Nat → Bool) (j : Nat) : Bool := st j || (List.range ops.size).all fun i => !bar i || !((waits ops.toList []).getD i 0).testBit j
theorem inv2_any {l : List Oper} {G : World → World → Prop} {T : Nat → World → World → Prop} {w0 : World} {R : Nat → Value → World → Prop} {K : Act → World → Prop} {a0 : Act} {st bar : Nat → Bool} (hB : invB l.toArray = true) (hK : barB l.toArray st bar = true)
    (Gt : ∀ w w1 w2, G w w1 → G w1 w2 → G w w2) (TG : ∀ i w w', G w0 w → T i w w' → G w w') (mono : ∀ i j v w w', bar i = false → G w0 w → T i w w' → R j v w → R j v w')
    (monoS : ∀ j v w w', st j = true → G w0 w → G w w' → R j v w → R j v w')
    (h : invList2 P l.toArray G T (aliveB l.toArray st bar) w0 R K l [] a0) :
    ∀ (fuel : Nat) (listed : Array Bool) (V : Nat → Value) (w : World), listed.size = l.length → Closed l.toArray listed → G w0 w →
    (∀ j, listed.getD j false = true → (∀ i, bar i = true → listed.getD i false = true → ((waits l.toArray.toList []).getD i 0).testBit j = true → st j = true) → R j (V j) w) →
    (rem l.toArray listed).length ≤ fuel → wpAny P .any l.toArray (Only K) fuel listed (fillD (fun j => listed.getD j false) V l 0 a0) w := by
  unfold invB at hB
  simp only [Bool.and_eq_true, List.all_eq_true, List.mem_range] at hB
  obtain ⟨hsel, hB⟩ := hB
  have hB' : ∀ i oi, l.toArray[i]? = some oi → _ := fun i oi hi => by
    have := hB i (Array.getElem?_eq_some_iff.1 hi).1
    simp only [hi, Bool.and_eq_true, List.all_eq_true, List.mem_range] at this
    exact this
  have hback : ∀ i oi, l.toArray[i]? = some oi → ∀ e ∈ oi.after, Region.binds .any e = true → e.on < i := fun i oi hi e he hb => by
    have := (hB' i oi hi).1 e (by simpa using he)
    simpa [hb] using this
  have htr : Truth l.toArray (waits l.toArray.toList []) := waits_truth hback l.toArray.toList [] (fun j => by simp) (fun i t hi => by simp at hi)
  have hlen : (waits l.toArray.toList []).length = l.length := by rw [waits_length]; simp
  have hanc : ∀ listed : Array Bool, Closed l.toArray listed → ∀ i t, i < l.length → listed.getD i false = true → ((waits l.toArray.toList []).getD i 0).testBit t = true → listed.getD t false = true := fun listed hcl i t hi hli hb => by
    have hlt : i < l.toArray.size := by simpa using hi
    exact htr.listed hcl i _ t (by rw [hlen]; exact hi) (Array.getElem?_eq_getElem hlt) (hcl i _ (Array.getElem?_eq_getElem hlt) hli) hb
  unfold barB at hK
  simp only [List.all_eq_true, List.mem_range] at hK
  have hK1 : ∀ i, i < l.length → bar i = true → ∀ j, j < l.length → j = i ∨ ((waits l.toArray.toList []).getD i 0).testBit j = true ∨ ((waits l.toArray.toList []).getD j 0).testBit i = true ∨ st j = true := fun i hi hb j hj => by
    have := hK i (by simpa using hi)
    rw [hb, Bool.not_true, Bool.false_or, List.all_eq_true] at this
    have := this j (List.mem_range.2 (by simpa using hj))
    simp only [Bool.and_eq_true, Bool.or_eq_true, beq_iff_eq] at this
    rcases this.1 with ((h | h) | h) | h
    · exact .inl h
    · exact .inr (.inl h)
    · exact .inr (.inr (.inl h))
    · exact .inr (.inr (.inr h))
  have hK2 : ∀ i, i < l.length → bar i = true → ∀ j, j < l.length → ((waits l.toArray.toList []).getD i 0).testBit j = true → st j = false → ∀ k o, l.toArray[k]? = some o → uses o j = true → k = i ∨ ((waits l.toArray.toList []).getD i 0).testBit k = true := fun i hi hb j hj ht hs k o hk hn => by
    have := hK i (by simpa using hi)
    rw [hb, Bool.not_true, Bool.false_or, List.all_eq_true] at this
    have := this j (List.mem_range.2 (by simpa using hj))
    simp only [Bool.and_eq_true, Bool.or_eq_true, hs, ht, Bool.not_true, List.all_eq_true] at this
    have h3 := this.2
    simp at h3
    have hkl : k < l.length := by have := (Array.getElem?_eq_some_iff.1 hk).1; simpa using this
    have h4 := h3 k hkl
    have hk' : l[k]? = some o := by simpa using hk
    simp [hk', hn] at h4
    rcases h4 with h | h
    · exact .inl h
    · exact .inr h
  have hall : ∀ listed : Array Bool, listed.size = l.length → Region.ready .any l.toArray listed = [] → ∀ i, i < l.length → listed.getD i false = true := fun listed hs hr i hi =>
    rem_nil hback listed (by simpa using hs) hr i (by simpa using hi)
  have hend : ∀ (listed : Array Bool) (V : Nat → Value) (w : World), (∀ i, i < l.length → listed.getD i false = true) → G w0 w → (∀ j, listed.getD j false = true → (∀ i, bar i = true → listed.getD i false = true → ((waits l.toArray.toList []).getD i 0).testBit j = true → st j = true) → R j (V j) w) →
      listed.size = l.length → K (fillD (fun j => listed.getD j false) V l 0 a0) w := fun listed V w hd hg hr hsz => by
    have := (inv2_at V l 0 a0 h).2 w hg fun j hj hl => hr j (hd j (by simpa using hj)) fun i hb hi ht => by
      unfold aliveB at hl
      rw [Bool.or_eq_true] at hl
      rcases hl with hl | hl
      · exact hl
      · rw [List.all_eq_true] at hl
        have hil : i < l.length := by
          rcases Nat.lt_or_ge i listed.size with h | h
          · omega
          · simp [Nat.not_lt.2 h] at hi
        have := hl i (List.mem_range.2 (by simpa using hil))
        rw [hb, ht] at this; simp at this
    rw [fill_congr _ (fun _ => true) V V l 0 a0 fun j _ hj => ⟨hd j (by simpa using hj), fun _ => rfl⟩]
    exact this
  intro fuel
  induction fuel with
  | zero =>
    intro listed V w hs hcl hg hr hf
    have hnil : rem l.toArray listed = [] := List.eq_nil_of_length_eq_zero (by omega)
    have hd : ∀ i, i < l.length → listed.getD i false = true := fun i hi => by
      by_cases hd : listed.getD i false = true
      · exact hd
      · exfalso
        have : i ∈ rem l.toArray listed := mem_rem.2 ⟨by simpa using hi, by
          have : i < listed.size := by omega
          simp [this] at hd ⊢; exact hd⟩
        rw [hnil] at this
        cases this
    refine ⟨?_, hend listed V w hd hg hr hs⟩
    cases hrd : Region.ready .any l.toArray listed with
    | nil => rfl
    | cons i q =>
      have hi : i ∈ Region.ready .any l.toArray listed := by rw [hrd]; simp
      obtain ⟨hun, o, ho, _⟩ := mem_ready.1 hi
      have : i ∈ rem l.toArray listed := mem_rem.2 ⟨(Array.getElem?_eq_some_iff.1 ho).1, hun⟩
      rw [hnil] at this
      cases this
  | succ fuel ih =>
    intro listed V w hs hcl hg hr hf
    refine ⟨fun hrd => hend listed V w (hall listed hs hrd) hg hr hs, fun i hi => ?_⟩
    obtain ⟨hun, o, ho, hdone⟩ := mem_ready.1 hi
    have hlt : i < l.toArray.size := (Array.getElem?_eq_some_iff.1 ho).1
    have hltl : i < l.length := by simpa using hlt
    have hlis : i < listed.size := by omega
    have hun' : listed.getD i false = false := by simp [hlis] at hun ⊢; exact hun
    have hol : l[i]? = some o := by simpa using ho
    have hin : ∀ q, listed.getD q false = true → q < l.length := fun q hq => by
      rcases Nat.lt_or_ge q listed.size with h | h
      · omega
      · simp [Nat.not_lt.2 h] at hq
    have hst := (inv2_at V l 0 a0 h).1 i o hol w hg fun j hj hn => by
      have hdj : listed.getD j false = true := by
        have hn' := uses_needs hn
        unfold needs at hn'
        simp only [List.any_eq_true, Bool.and_eq_true, beq_iff_eq] at hn'
        obtain ⟨e, he, hb, rfl⟩ := hn'
        exact hdone e (by simpa using he) hb
      refine hr j hdj fun i' hb' hl' ht' => ?_
      cases hsj : st j with
      | true => rfl
      | false =>
        exfalso
        rcases hK2 i' (hin i' hl') hb' j (hin j hdj) ht' hsj i o ho hn with h | h
        · rw [← h, hun'] at hl'; cases hl'
        · have := hanc listed hcl i' i (hin i' hl') hl' h
          rw [hun'] at this; cases this
    rw [Nat.zero_add] at hst
    have hsel' : ∀ cs b, o.op ≠ .select cs b := by
      intro cs b hc
      unfold Region.noSelect at hsel
      simp only [Array.all_eq_true] at hsel
      have := hsel i (by simpa using hlt)
      rw [(Array.getElem?_eq_some_iff.1 ho).2] at this
      rw [hc] at this
      simp at this
    have hsv := stepV_congr (a := fillD (fun j => listed.getD j false) V l 0 a0) hsel' (by rw [fill_size, fill_size]) (fun d hd => ?_) (stepV_of_list hst)
    · refine stepV_wpOp ho ?_ hsv
      rintro v w' ⟨hgw, hR⟩
      rw [fill_take (fun j => listed.getD j false) V v l 0 a0 i o hol (by rw [Nat.zero_add]; exact hun') fun q o' hq hne d hd1 hd2 => by
        have h1 := (hB' i o ho).2 q (by have := (List.getElem?_eq_some_iff.1 hq).1; simpa using this)
        have hq' : l.toArray[q]? = some o' := by simpa using hq
        simp [hne, hq', hd2, hd1] at h1]
      have hcl' := hcl.set hi
      have e : (fun j => if j = 0 + i then true else listed.getD j false) = fun j => (listed.setIfInBounds i true).getD j false := by
        funext j
        rw [Nat.zero_add]
        by_cases hj : j = i
        · subst hj; simp [hlis]
        · rw [if_neg hj, getD_set_ne false (fun e => hj e.symm)]
      rw [e]
      refine ih _ _ w' (by simpa using hs) hcl' (Gt _ _ _ hg (TG i _ _ hg hgw)) (fun j hj hal => ?_) ?_
      · rw [Nat.zero_add]
        by_cases hji : j = i
        · subst hji; rw [if_pos rfl]; exact hR
        · rw [if_neg hji]
          rw [getD_set_ne false (fun e => hji e.symm)] at hj
          have hold := hr j hj fun i' hb' hl' ht' => hal i' hb' (by
            by_cases h : i' = i
            · subst h; simp [hlis]
            · rw [getD_set_ne false (fun e => h e.symm)]; exact hl') ht'
          cases hbi : bar i with
          | false => exact mono i j _ w w' hbi hg hgw hold
          | true =>
            refine monoS j _ w w' ?_ hg (TG i _ _ hg hgw) hold
            rcases hK1 i hltl hbi j (hin j hj) with h | h | h | h
            · exact absurd h hji
            · exact hal i hbi (by simp [hlis]) h
            · have := hanc listed hcl j i (hin j hj) hj h
              rw [hun'] at this; cases this
            · exact h
      · obtain ⟨τ, ρ, e1, e2, _⟩ := rem_split (by simpa using hs) (mem_rem.2 ⟨hlt, hun⟩)
        rw [e2]
        rw [e1] at hf
        simp only [List.length_append, List.length_cons] at hf ⊢
        omega
    · refine fill_at _ _ V d l 0 a0 a0 rfl rfl fun q o' hq hod => ?_
      rw [Nat.zero_add]
      have hq' : l.toArray[q]? = some o' := by simpa using hq
      have hql : q < l.length := (List.getElem?_eq_some_iff.1 hq).1
      by_cases hqi : q = i
      · subst hqi; rw [hun']; simp
      · have h1 := (hB' i o ho).2 q (by simpa using hql)
        have hdc : (o.looksAt l.toArray).contains d = true := by simpa using hd
        simp only [hqi, beq_iff_eq, hq', Option.bind_some, hod, hdc, Bool.not_true, Bool.false_or, Bool.or_eq_true, Bool.and_eq_true, decide_eq_true_eq, false_or] at h1
        rcases h1.2 with ⟨h2, h3⟩ | ⟨h2, h3⟩
        · rw [decide_eq_true h2]
          unfold needs at h3
          simp only [List.any_eq_true, Bool.and_eq_true, beq_iff_eq] at h3
          obtain ⟨e, he, hb, rfl⟩ := h3
          exact hdone e (by simpa using he) hb
        · rw [decide_eq_false (by omega)]
          by_cases hqd : listed.getD q false = true
          · exfalso
            have := htr.listed hcl q o' i (by omega) hq' (fun e he hb => hcl q o' hq' hqd e he hb) h3
            rw [hun'] at this
            cases this
          · simpa using hqd
/-- What is known of a value for as long as all that lies in memory stays. -/
abbrev SP := {p : Value → World → Prop // ∀ v w w', Below w.heap.size w w' → p v w → p v w'}
/-- A value, or what is known of it. -/
abbrev Want := Sum Value SP
def Want.holds : Want → Value → World → Prop
  | .inl u, v, _ => v = u
  | .inr p, v, w => p.1 v w
def Want.fixed : Want → Bool
  | .inl _ => true
  | .inr _ => false
def wantAt (L : List Want) (j : Nat) : Want := L.getD j (.inl undef)
def Turns (B : Nat) (bar : List Nat) (i : Nat) (x y : World) : Prop := match bar.contains i with
  | true => Below B x y
  | false => Below x.heap.size x y
/-- THE LAW. -/
theorem wp_region_inw {id : Nat} {l : List Oper} {Q : Exit → Act → World → Prop} {a : Act} {w : World} (L : List Want) (bar : List Nat) (hm : P.follows .mixedOrders = true) (hB : invB l.toArray = true)
    (hK : barB l.toArray (fun j => (wantAt L j).fixed) (fun i => bar.contains i) = true)
    (h : invList2 P l.toArray (Below w.heap.size) (Turns w.heap.size bar) (aliveB l.toArray (fun j => (wantAt L j).fixed) (fun i => bar.contains i)) w.drew (fun j v w => (wantAt L j).holds v w) (Q .normal) l [] a) : (Code.region id l.toArray true).wp P Q a w := by
  refine Code.wp_mono (Q := Only (Q .normal)) (fun e a w hq => by cases e <;> first | exact hq | exact hq.elim) ?_
  refine wp_region_any hm ?_
  have hsz : ∀ {x : World}, Below w.heap.size w.drew x → w.heap.size ≤ x.heap.size := fun hx => hx.size
  have h0 := inv2_any (w0 := w.drew) (R := fun j v w => (wantAt L j).holds v w) hB hK (fun _ _ _ h1 h2 => h1.trans h2) (fun i x y hg ht => by
      unfold Turns at ht
      split at ht
      · exact ht
      · exact ht.mono (hsz hg)) (fun i j v x y hbi hg ht hr => by
      unfold Turns at ht
      rw [hbi] at ht
      cases e : wantAt L j with
      | inl u => rw [e] at hr; exact hr
      | inr p => rw [e] at hr; exact p.2 v x y ht hr) (fun j v x y hs hg ht hr => by
      cases e : wantAt L j with
      | inl u => rw [e] at hr; exact hr
      | inr p => rw [e] at hs; cases hs) h l.toArray.size (Array.replicate l.toArray.size false) (fun _ => undef) w.drew (by simp) (fun j oj _ hl => by rw [getD_replicate0] at hl; cases hl) ((Below.refl _ _)) (fun j hj => by rw [getD_replicate0] at hj; cases hj) ?_
  · rw [fill_none] at h0
    · exact h0
    · intro j _; exact getD_replicate0 _ _
  · refine Nat.le_trans (List.length_filter_le _ _) ?_
    simp
theorem inw_cons {G : World → World → Prop} {T : Nat → World → World → Prop} {alive : Nat → Bool} {w0 : World} {R : Nat → Value → World → Prop} {K : Act → World → Prop} {o : Oper} {r : List Oper} {vs : List Value} {a : Act}
    (h1 : ∀ w, G w0 w → (∀ j, j < vs.length → uses o j = true → R j (vs.getD j undef) w) → wpList P ops (Leaves a o.dst fun v w' => T vs.length w w' ∧ R vs.length v w') [o] a w)
    (h2 : ∀ v, invList2 P ops G T alive w0 R K r (vs ++ [v]) (a.put o.dst v)) : invList2 P ops G T alive w0 R K (o :: r) vs a := ⟨h1, h2⟩
theorem inw_done {G : World → World → Prop} {T : Nat → World → World → Prop} {alive : Nat → Bool} {w0 : World} {R : Nat → Value → World → Prop} {K : Act → World → Prop} {vs : List Value} {a : Act}
    (h : ∀ w, G w0 w → (∀ j, j < vs.length → alive j = true → R j (vs.getD j undef) w) → K a w) : invList2 P ops G T alive w0 R K [] vs a := h
end
end Go.Proofs.YtdbfimdcaacjhaaGreat
