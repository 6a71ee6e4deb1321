/- Joined: Lex, Lex2, Lex3, Kit, Kit2, CaA, CaB, CaP, CaC, CaD, CaE, CaG, CaH, CaI, CaJ: contracts and plain laws, each with its own heading below. -/
import Derived.Orders
import Derived.Still
import Derived.Tactics
import Derived.KernelRfl
import Derived.WalkKit
import Derived.WalkSpells
import Derived.WalkLawsBesides
import Derived.Handy
import Derived.Lib.Hide
import Derived.BigQuiet
import Derived.Deep.QuietTactic
import Derived.Deep.AppendLies
import Derived.Deep.LoopGhost
import Derived.Sort.Row
import Derived.Test.YtjimcjhgjfhbiaaGreatProg
import Derived.BigRegion
import Derived.Deep.CutRange
import Derived.ChangeKeysEq
import Derived.Deep.RegionLawGrows
import Derived.Laws.AppendOwn
import Derived.Lib.AppendZeros
/- A statement whose order Go leaves open: where a closed look shows that operations that may change places do not disturb each other, one walk in the order of the text serves every order. -/
namespace Go.Proofs.YtjimcjhgjfhbiaaGreat
open Go

/-! ### What an operation's run hangs on -/
/-- Where it goes through, the world is as it was, and it goes through alike in every other world. -/
def CS {α : Type} (m : Sem α) : Prop := ∀ P w x w', m.run P w = .ok x w' → w' = w ∧ ∀ w2, m.run P w2 = .ok x w2
/-- Where it goes through, the world is as it was. -/
def RS {α : Type} (m : Sem α) : Prop := ∀ P w x w', m.run P w = .ok x w' → w' = w
/-- It never goes through. -/
def NS {α : Type} (m : Sem α) : Prop := ∀ P w x w', m.run P w ≠ .ok x w'

theorem CS.rs {α : Type} {m : Sem α} (h : CS m) : RS m := fun P w x w' e => (h P w x w' e).1
theorem NS.cs {α : Type} {m : Sem α} (h : NS m) : CS m := fun P w x w' e => (h P w x w' e).elim
theorem NS.rs {α : Type} {m : Sem α} (h : NS m) : RS m := h.cs.rs

theorem CS_pure {α : Type} (a : α) : CS (pure a : Sem α) := fun P w x w' e => by
  have : (.ok a w : Result α) = .ok x w' := e
  cases this; exact ⟨rfl, fun _ => rfl⟩
theorem CS_program : CS program := fun P w x w' e => by
  have : (.ok P w : Result Program) = .ok x w' := e
  cases this; exact ⟨rfl, fun _ => rfl⟩
theorem NS_stuck {α : Type} (s : String) : NS (stuck s : Sem α) := fun P w x w' e => by
  have : (.halt (.stuck s) w : Result α) = .ok x w' := e
  cases this
theorem NS_unsupported {α : Type} (u : Unsupported) : NS (unsupported u : Sem α) := fun P w x w' e => by
  have : (.halt (.unsupported u) w : Result α) = .ok x w' := e
  cases this
theorem NS_goPanic {α : Type} (v : Value) : NS (goPanic v : Sem α) := fun P w x w' e => by
  have : (.halt (.panic v) w : Result α) = .ok x w' := e
  cases this
theorem run_bind_ok {α β : Type} {m : Sem α} {f : α → Sem β} {P : Program} {w w' : World} {x : β} (e : (m >>= f).run P w = .ok x w') :
    ∃ a w1, m.run P w = .ok a w1 ∧ (f a).run P w1 = .ok x w' := by
  rw [Sem.run_bind] at e
  cases h : m.run P w with
  | ok a w1 => rw [h] at e; exact ⟨a, w1, rfl, e⟩
  | halt h1 w1 => rw [h] at e; simp [Result.andThen] at e
theorem run_bind_mk {α β : Type} {m : Sem α} {f : α → Sem β} {P : Program} {w w1 w' : World} {a : α} {x : β} (h : m.run P w = .ok a w1) (e : (f a).run P w1 = .ok x w') :
    (m >>= f).run P w = .ok x w' := by
  rw [Sem.run_bind, h]; exact e
theorem CS_bind {α β : Type} {m : Sem α} {f : α → Sem β} (h : CS m) (hf : ∀ a, CS (f a)) : CS (m >>= f) := fun P w x w' e => by
  obtain ⟨a, w1, h1, h2⟩ := run_bind_ok e
  obtain ⟨rfl, g1⟩ := h P w a w1 h1
  obtain ⟨rfl, g2⟩ := hf a P _ x w' h2
  exact ⟨rfl, fun w2 => run_bind_mk (g1 w2) (g2 w2)⟩
theorem RS_bind {α β : Type} {m : Sem α} {f : α → Sem β} (h : RS m) (hf : ∀ a, RS (f a)) : RS (m >>= f) := fun P w x w' e => by
  obtain ⟨a, w1, h1, h2⟩ := run_bind_ok e
  have := h P w a w1 h1
  subst this
  exact hf a P _ x w' h2
theorem NS_bind_left {α β : Type} {m : Sem α} {f : α → Sem β} (h : NS m) : NS (m >>= f) := fun P w x w' e => by
  obtain ⟨a, w1, h1, _⟩ := run_bind_ok e
  exact h P w a w1 h1
theorem NS_bind {α β : Type} {m : Sem α} {f : α → Sem β} (hf : ∀ a, NS (f a)) : NS (m >>= f) := fun P w x w' e => by
  obtain ⟨a, w1, _, h2⟩ := run_bind_ok e
  exact hf a P w1 x w' h2
theorem RS_load (a : Addr) (m : Mode) : RS (load a m) := fun P w x w' e => by
  unfold load at e
  simp only [Sem.run] at e
  split at e
  · cases e; rfl
  · split at e
    · cases e; rfl
    · cases e

theorem NS_runtimePanic {α : Type} (r : RuntimeError) : NS (runtimePanic r : Sem α) := by
  unfold runtimePanic
  refine NS_bind fun p => ?_
  cases r <;> simp only []
  case typeAssertion => exact NS_bind fun _ => NS_bind fun _ => NS_goPanic _
  case panicNil => exact NS_bind fun _ => NS_bind fun _ => NS_goPanic _
  all_goals exact NS_goPanic _
theorem NS_boundsPanic {α : Type} (k : IntKind) (x y : Int) (c : BoundsCode) : NS (boundsPanic k x y c : Sem α) := by
  unfold boundsPanic
  dsimp only
  split
  · exact NS_bind fun _ => NS_runtimePanic _
  · exact NS_bind fun _ => NS_runtimePanic _

theorem CS_ite {α : Type} {c : Prop} [Decidable c] {a b : Sem α} (ha : CS a) (hb : CS b) : CS (if c then a else b) := by split <;> assumption
theorem CS_typeInfo (t : TypeId) : CS (typeInfo t) := CS_bind CS_program fun p => by split <;> first | exact CS_pure _ | exact (NS_stuck _).cs
theorem CS_underlying (t : TypeId) : CS (underlying t) := CS_bind CS_program fun p => by split <;> first | exact CS_pure _ | exact (NS_stuck _).cs
theorem CS_sizeOf (t : TypeId) : CS (sizeOf t) := CS_bind (CS_typeInfo t) fun _ => CS_pure _
theorem CS_zeroValue (t : TypeId) : CS (zeroValue t) := CS_bind (CS_typeInfo t) fun _ => by split <;> first | exact CS_pure _ | exact (NS_unsupported _).cs
theorem CS_isAgg (t : TypeId) : CS (isAgg t) := CS_bind (CS_underlying t) fun d => by split <;> exact CS_pure _
theorem CS_part (t : TypeId) (cs : Array Value) (off : Nat) : CS (part t cs off) := by
  unfold part
  refine CS_bind (CS_isAgg t) fun b => ?_
  refine CS_ite (CS_bind (CS_sizeOf t) fun _ => CS_pure _) ?_
  split
  · exact CS_pure _
  · exact (NS_stuck _).cs
theorem CS_asIntOf (v : Value) : CS (asIntOf v) := by unfold asIntOf; split <;> first | exact CS_pure _ | exact (NS_unsupported _).cs | exact (NS_stuck _).cs
theorem CS_asBool (v : Value) : CS (asBool v) := by unfold asBool; split <;> first | exact CS_pure _ | exact (NS_stuck _).cs
theorem CS_asAgg (v : Value) : CS (asAgg v) := by unfold asAgg; split <;> first | exact CS_pure _ | exact (NS_stuck _).cs
theorem CS_asAddr (v : Value) : CS (asAddr v) := by unfold asAddr; split <;> first | exact CS_pure _ | exact (NS_runtimePanic _).cs | exact (NS_stuck _).cs
theorem CS_sureAddr (v : Value) : CS (Instr.sureAddr v) := by unfold Instr.sureAddr; split <;> first | exact CS_pure _ | exact (NS_stuck _).cs
theorem RS_shape (r : Nat) : RS (shape r) := fun P w x w' e => by
  have : (.ok (w.shape? r) w : Result _) = .ok x w' := e
  cases this; rfl
theorem RS_getObj (r : Nat) : RS (getObj r) := fun P w x w' e => by
  unfold getObj at e
  simp only [Sem.run] at e
  split at e
  · cases e
  · cases e; rfl
  · cases e
theorem RS_viewAt (r : Nat) : RS (viewAt r) := by
  unfold viewAt
  refine RS_bind (RS_shape r) fun s => ?_
  split
  · exact (CS_pure _).rs
  · refine RS_bind (RS_getObj r) fun o => ?_
    split <;> exact (CS_pure _).rs
theorem RS_noView (a : Addr) : RS (noView a) := by
  unfold noView
  refine RS_bind (RS_viewAt _) fun s => ?_
  split
  · exact (NS_unsupported _).rs
  · exact (CS_pure _).rs
theorem RS_byteOf (a : Addr) : RS (byteOf a) := by
  unfold byteOf
  dsimp only
  split
  · exact (CS_pure _).rs
  · refine RS_bind CS_program.rs fun p => RS_bind (RS_noView a) fun _ => RS_bind (RS_shape _) fun s => ?_
    split
    · split
      · exact (CS_pure _).rs
      · split
        · exact (CS_pure _).rs
        · exact (NS_stuck _).rs
    · exact (NS_stuck _).rs
theorem RS_partAt (a : Addr) (c b : Nat) : RS (partAt a c b) := by
  unfold partAt
  exact RS_bind (RS_byteOf a) fun x => RS_bind (RS_byteOf _) fun y => (CS_pure _).rs
theorem RS_fieldPlace (a : Addr) (f : Field) : RS (fieldPlace a f) := by
  unfold fieldPlace
  refine RS_bind (CS_sizeOf _).rs fun n => ?_
  split
  · exact RS_partAt _ _ _
  · exact (CS_pure _).rs
theorem RS_loadCellsFrom (a : Addr) : ∀ (n i : Nat) (acc : Array Value), RS (loadCellsFrom a i n acc)
  | 0, _, _ => (CS_pure _).rs
  | n + 1, i, _ => RS_bind (RS_load _ _) fun _ => RS_loadCellsFrom a n (i + 1) _
theorem RS_loadVar (t : TypeId) (a : Addr) : RS (loadVar t a) := by
  unfold loadVar
  refine RS_bind (CS_isAgg t).rs fun b => ?_
  split
  · refine RS_bind (CS_sizeOf t).rs fun n => RS_bind (RS_loadCellsFrom _ _ _ _) fun _ => (CS_pure _).rs
  · exact RS_load _ _
theorem RS_loadAt (t : TypeId) (v : Value) : RS (Instr.loadAt t v) := RS_bind (CS_sureAddr v).rs fun _ => RS_loadVar _ _
theorem RS_fieldAt (s : TypeId) (v : Value) (f : Nat) : RS (Instr.fieldAt s v f) := by
  unfold Instr.fieldAt
  refine RS_bind (CS_underlying s).rs fun d => ?_
  split
  · split
    · exact RS_bind (CS_sureAddr v).rs fun _ => RS_bind (RS_fieldPlace _ _) fun _ => (CS_pure _).rs
    · exact (NS_stuck _).rs
  · exact (NS_stuck _).rs
theorem CS_indexAt (t : TypeId) (x i : Value) : CS (Instr.indexAt t x i) := by
  unfold Instr.indexAt
  refine CS_bind (CS_asIntOf i) fun ki => ?_
  obtain ⟨k, i⟩ := ki
  dsimp only
  refine CS_bind (CS_underlying t) fun d => ?_
  split
  · refine CS_bind (CS_sureAddr _) fun q => CS_bind (CS_pure _) fun q => CS_bind (CS_underlying t) fun d2 => ?_
    split
    · split
      · exact CS_bind (CS_sizeOf _) fun _ => CS_pure _
      · split <;> (split <;> first | exact (NS_unsupported _).cs | exact (NS_boundsPanic _ _ _ _).cs)
    · exact (NS_boundsPanic _ _ _ _).cs
  · refine CS_bind (CS_pure _) fun q => CS_bind (CS_underlying t) fun d2 => ?_
    split
    · split
      · exact CS_bind (CS_sizeOf _) fun _ => CS_pure _
      · split <;> (split <;> first | exact (NS_unsupported _).cs | exact (NS_boundsPanic _ _ _ _).cs)
    · exact (NS_boundsPanic _ _ _ _).cs
  · exact (NS_bind_left (NS_stuck _)).cs
theorem CS_field (t : TypeId) (x : Value) (f : Nat) : CS (Instr.field t x f) := by
  unfold Instr.field
  refine CS_bind (CS_underlying t) fun d => ?_
  split
  · split
    · exact CS_bind (CS_asAgg x) fun _ => CS_part _ _ _
    · exact (NS_stuck _).cs
  · exact (NS_stuck _).cs
theorem CS_index (t : TypeId) (x i : Value) : CS (Instr.index t x i) := by
  unfold Instr.index
  refine CS_bind (CS_asIntOf i) fun ki => ?_
  obtain ⟨k, i⟩ := ki
  dsimp only
  refine CS_bind (CS_underlying t) fun d => ?_
  split
  · split
    · exact CS_bind (CS_sizeOf _) fun _ => CS_part _ _ _
    · exact (NS_boundsPanic _ _ _ _).cs
  · split
    · exact CS_pure _
    · exact (NS_boundsPanic _ _ _ _).cs
  · exact (NS_stuck _).cs
theorem CS_extract (x : Value) (i : Nat) : CS (Instr.extract x i) := by
  unfold Instr.extract
  split
  · split
    · exact CS_pure _
    · exact (NS_stuck _).cs
  · exact (NS_stuck _).cs
theorem CS_listMapM {α β : Type} (f : α → Sem β) (hf : ∀ a, CS (f a)) : ∀ l : List α, CS (l.mapM f)
  | [] => by rw [List.mapM_nil]; exact CS_pure _
  | a :: l => by rw [List.mapM_cons]; exact CS_bind (hf a) fun _ => CS_bind (CS_listMapM f hf l) fun _ => CS_pure _
theorem CS_build (t : TypeId) (parts : Array (Nat × Value)) : CS (Instr.build t parts) := by
  unfold Instr.build
  refine CS_bind (CS_zeroValue t) fun z => CS_bind (CS_underlying t) fun d => ?_
  split
  · refine CS_bind ?_ fun places => ?_
    · rw [Array.mapM_eq_mapM_toList]
      exact CS_bind (CS_listMapM _ (fun f => CS_bind (CS_sizeOf _) fun _ => CS_pure _) _) fun _ => CS_pure _
    · split
      · exact CS_pure _
      · exact (NS_stuck _).cs
  · refine CS_bind (CS_sizeOf _) fun n => ?_
    split
    · exact CS_pure _
    · exact (NS_stuck _).cs
  · exact (NS_stuck _).cs

theorem CS_intArith (op : BinOp) (k : IntKind) (x y : Int) : CS (Op.intArith op k x y) := by
  unfold Op.intArith; split <;> first | exact CS_pure _ | exact (NS_stuck _).cs
theorem CS_intDiv (op : BinOp) (k : IntKind) (x y : Int) : CS (Op.intDiv op k x y) := by
  unfold Op.intDiv
  refine CS_ite (NS_runtimePanic _).cs ?_
  split <;> first | exact CS_pure _ | exact (NS_stuck _).cs
theorem CS_intBits (op : BinOp) (k : IntKind) (x y : Int) : CS (Op.intBits op k x y) := by
  unfold Op.intBits; dsimp only; split <;> first | exact CS_pure _ | exact (NS_stuck _).cs
theorem CS_intCmp (op : BinOp) (x y : Int) : CS (Op.intCmp op x y) := by
  unfold Op.intCmp; split <;> first | exact CS_pure _ | exact (NS_stuck _).cs
theorem CS_shift (op : BinOp) (k : IntKind) (x : Int) (yk : IntKind) (y : Int) : CS (Op.shift op k x yk y) := by
  unfold Op.shift
  refine CS_ite (NS_runtimePanic _).cs ?_
  dsimp only
  split <;> first | exact CS_pure _ | exact (NS_stuck _).cs
theorem CS_stringOp (op : BinOp) (x y : ByteArray) : CS (Op.stringOp op x y) := by
  unfold Op.stringOp
  dsimp only
  split
  · exact CS_ite (NS_unsupported _).cs (CS_pure _)
  all_goals first | exact CS_pure _ | exact (NS_stuck _).cs
theorem CS_unary (op : UnOp) (x : Value) : CS (Op.unary op x) := by
  unfold Op.unary
  split <;> first | exact CS_intArith _ _ _ _ | exact CS_intBits _ _ _ _ | exact CS_pure _ | exact (NS_unsupported _).cs | exact (NS_stuck _).cs
theorem CS_sliceBound (x : Value) (y : Nat) (c : BoundsCode) : CS (Instr.sliceBound x y c) := by
  unfold Instr.sliceBound
  refine CS_bind (CS_asIntOf x) fun q => ?_
  obtain ⟨k, i⟩ := q
  exact CS_ite (CS_pure _) (NS_boundsPanic _ _ _ _).cs
theorem CS_sliceBounds (b : Bool) (len cap : Nat) (lo hi mx : Option Value) : CS (Instr.sliceBounds b len cap lo hi mx) := by
  unfold Instr.sliceBounds
  cases mx <;> cases hi <;> cases lo <;> simp only [] <;>
    repeat' (first | exact CS_pure _ | exact (NS_stuck _).cs | exact (NS_bind_left (NS_stuck _)).cs | exact CS_sliceBound _ _ _ | (refine CS_bind ?_ fun _ => ?_))
theorem CS_slice (t : TypeId) (x : Value) (lo hi mx : Option Value) : CS (Instr.slice t x lo hi mx) := by
  unfold Instr.slice
  refine CS_bind (CS_underlying t) fun d => ?_
  split
  · split
    · exact (NS_bind_left (NS_stuck _)).cs
    · exact CS_bind (CS_sliceBounds _ _ _ _ _ _) fun _ => CS_pure _
  · exact CS_bind (CS_sliceBounds _ _ _ _ _ _) fun _ => CS_bind (CS_sizeOf _) fun _ => CS_pure _
  · refine CS_bind (CS_asAddr _) fun _ => CS_bind (CS_underlying _) fun _ => ?_
    split
    · exact CS_bind (CS_sliceBounds _ _ _ _ _ _) fun _ => CS_bind (CS_sizeOf _) fun _ => CS_pure _
    · exact (NS_stuck _).cs
  · exact (NS_stuck _).cs
theorem CS_sliceAt (t : TypeId) (x : Value) (lo hi mx : Option Value) : CS (Instr.sliceAt t x lo hi mx) := by
  unfold Instr.sliceAt
  refine CS_bind (CS_underlying t) fun d => ?_
  split
  · exact CS_bind (CS_sureAddr _) fun _ => CS_bind (CS_sliceBounds _ _ _ _ _ _) fun _ => CS_bind (CS_sizeOf _) fun _ => CS_pure _
  · exact CS_slice _ _ _ _ _

/-- Numbers, strings, truth values, slices: what is reckoned of them hangs on no world. -/
def gv : Value → Bool
  | .int _ _ | .string _ | .bool _ | .slice _ _ _ => true
  | _ => false
def gp : Value → Bool
  | .pointer (some _) => true
  | v => gv v

theorem CS_equalIn (n : Nat) (t : TypeId) (x y : Value) (hx : gv x = true) (hy : gv y = true) : CS (Op.equalIn n t x y) := by
  cases n with
  | zero => exact (NS_unsupported _).cs
  | succ n =>
    unfold Op.equalIn
    refine CS_bind (CS_underlying t) fun d => ?_
    split <;> first
      | exact CS_pure _
      | exact CS_ite (CS_pure _) (NS_stuck _).cs
      | exact (NS_stuck _).cs
      | (simp [gv] at hx; done)
      | (simp [gv] at hy; done)
theorem CS_binOp (op : BinOp) (t : TypeId) (x y : Value) (hx : gv x = true) (hy : gv y = true) : CS (binOp op t x y) := by
  have heq := CS_equalIn Op.maxDepth t x y hx hy
  have e1 : CS (do pure (.bool (← Op.equal t x y)) : Sem Value) := CS_bind heq fun _ => CS_pure _
  have e2 : CS (do pure (.bool (!(← Op.equal t x y))) : Sem Value) := CS_bind heq fun _ => CS_pure _
  unfold binOp
  cases x <;> simp [gv] at hx <;> cases y <;> simp [gv] at hy <;> cases op <;> dsimp only <;> first
    | exact e1
    | exact e2
    | exact CS_shift _ _ _ _ _
    | exact CS_stringOp _ _ _
    | exact (NS_stuck _).cs
    | (refine CS_ite (NS_stuck _).cs ?_; first | exact CS_intArith _ _ _ _ | exact CS_intDiv _ _ _ _ | exact CS_intBits _ _ _ _ | exact CS_intCmp _ _ _)
theorem CS_eqGuard (op : BinOp) (t : TypeId) (x y : Operand) (a b : Value) (ha : gv a = true) : CS (eqGuard op t x y a b) := by
  unfold eqGuard
  cases a <;> simp [gv] at ha <;> cases op <;> first | exact CS_pure _ | (cases b <;> exact CS_pure _)
theorem CS_min2 (x y : Value) (hx : gv x = true) (hy : gv y = true) : CS (Builtin.min2 x y) := by
  cases x <;> simp [gv] at hx <;> cases y <;> simp [gv] at hy <;> unfold Builtin.min2 <;> first
    | exact CS_pure _
    | exact CS_bind (CS_stringOp _ _ _) fun _ => CS_bind (CS_asBool _) fun _ => CS_pure _
    | exact (NS_stuck _).cs
theorem CS_max2 (x y : Value) (hx : gv x = true) (hy : gv y = true) : CS (Builtin.max2 x y) := by
  cases x <;> simp [gv] at hx <;> cases y <;> simp [gv] at hy <;> unfold Builtin.max2 <;> first
    | exact CS_pure _
    | exact CS_bind (CS_stringOp _ _ _) fun _ => CS_bind (CS_asBool _) fun _ => CS_pure _
    | exact (NS_stuck _).cs
theorem CS_len (ts : Array TypeId) (t : TypeId) (args : Array Value) (h : ∀ v, args[0]? = some v → gv v = true) : CS (Builtin.len_ ts t args) := by
  unfold Builtin.len_
  split
  · rename_i u x h2
    have hx := h x (Prod.mk.inj h2).2
    clear h2
    refine CS_bind (CS_underlying _) fun d => ?_
    cases x <;> simp [gv] at hx <;> split <;> first
      | exact CS_pure _
      | exact (NS_stuck _).cs
      | contradiction
      | (refine CS_bind (CS_underlying _) fun d => ?_; split <;> first | exact CS_pure _ | exact (NS_stuck _).cs)
  · exact (NS_stuck _).cs
theorem CS_cap (ts : Array TypeId) (t : TypeId) (args : Array Value) (h : ∀ v, args[0]? = some v → gv v = true) : CS (Builtin.cap_ ts t args) := by
  unfold Builtin.cap_
  split
  · rename_i u x h2
    have hx := h x (Prod.mk.inj h2).2
    clear h2
    refine CS_bind (CS_underlying _) fun d => ?_
    cases x <;> simp [gv] at hx <;> split <;> first
      | exact CS_pure _
      | exact (NS_stuck _).cs
      | contradiction
      | (refine CS_bind (CS_underlying _) fun d => ?_; split <;> first | exact CS_pure _ | exact (NS_stuck _).cs)
  · exact (NS_stuck _).cs

/-- What goes through yields a value, leaves the world, and goes through alike in every world. -/
def CV (m : Sem Next) : Prop := ∀ P w x w', m.run P w = .ok x w' → (∃ v, x = .value v) ∧ w' = w ∧ ∀ w2, m.run P w2 = .ok x w2
def RV (m : Sem Next) : Prop := ∀ P w x w', m.run P w = .ok x w' → (∃ v, x = .value v) ∧ w' = w
theorem CV.rv {m : Sem Next} (h : CV m) : RV m := fun P w x w' e => ⟨(h P w x w' e).1, (h P w x w' e).2.1⟩
theorem CV_of {s : Sem Value} (h : CS s) : CV (do pure (.value (← s))) := fun P w x w' e => by
  obtain ⟨a, w1, h1, h2⟩ := run_bind_ok e
  have h3 : (.ok (.value a) w1 : Result Next) = .ok x w' := h2
  cases h3
  obtain ⟨rfl, g⟩ := h P w a _ h1
  exact ⟨⟨a, rfl⟩, rfl, fun w2 => run_bind_mk (g w2) rfl⟩
theorem RV_of {s : Sem Value} (h : RS s) : RV (do pure (.value (← s))) := fun P w x w' e => by
  obtain ⟨a, w1, h1, h2⟩ := run_bind_ok e
  have h3 : (.ok (.value a) w1 : Result Next) = .ok x w' := h2
  cases h3
  exact ⟨⟨a, rfl⟩, h P w a _ h1⟩
theorem CV_pure (v : Value) : CV (pure (.value v)) := fun P w x w' e => by
  have h3 : (.ok (.value v) w : Result Next) = .ok x w' := e
  cases h3
  exact ⟨⟨v, rfl⟩, rfl, fun _ => rfl⟩
theorem CV_bind {α : Type} {s : Sem α} {f : α → Sem Next} (h : CS s) (hf : ∀ a, CV (f a)) : CV (s >>= f) := fun P w x w' e => by
  obtain ⟨a, w1, h1, h2⟩ := run_bind_ok e
  obtain ⟨rfl, g1⟩ := h P w a w1 h1
  obtain ⟨hv, rfl, g2⟩ := hf a P _ x w' h2
  exact ⟨hv, rfl, fun w2 => run_bind_mk (g1 w2) (g2 w2)⟩
/-- The kinds of operations: 0 hangs on no world; 1 only reads; 2 anything. -/
def kindOf : Op → Nat
  | .move _ | .assign _ | .pick .. | .indexAddr .. | .field .. | .index .. | .extract .. | .build .. | .unOp .. | .slice .. | .binOp .. | .nilCheck _ => 0
  | .call c => match c.callee with
    | .builtin .len | .builtin .cap => if c.args.size = 1 then 0 else 2
    | .builtin .min | .builtin .max => if c.args.size = 2 then 0 else 2
    | _ => 2
  | .load .. | .fieldAddr .. => 1
  | _ => 2
/-- Which operations are asked of what their operands hold. -/
def asksVals : Op → Bool
  | .binOp .. | .nilCheck _ | .call _ => true
  | _ => false
def goodVals (ρ : Operand → Value) : Op → Bool
  | .binOp _ _ x y _ => gv (ρ x) && gv (ρ y)
  | .nilCheck x => gp (ρ x)
  | .call c => match c.callee with
    | .builtin .len | .builtin .cap | .builtin .min | .builtin .max => c.args.all fun x => gv (ρ x)
    | _ => true
  | _ => true

theorem RV_kind1 {ρ : Operand → Value} {o : Oper} (h : kindOf o.op = 1) : RV (execOp ρ o) := by
  obtain ⟨dst, op, type, pos, after, guard⟩ := o
  cases op <;> simp [kindOf] at h <;> unfold execOp
  case load t a => exact RV_of (RS_loadAt _ _)
  case fieldAddr t x f => exact RV_of (RS_fieldAt _ _ _)
  case call c => split at h <;> (try split at h) <;> simp at h

theorem all2 {p : Operand → Bool} {args : Array Operand} (h : args.all p = true) : ∀ x ∈ args.toList, p x = true := fun x hx => by
  rw [Array.all_eq_true_iff_forall_mem] at h
  exact h x (by simpa using hx)
theorem CV_call (ρ : Operand → Value) (c : Call) (t : TypeId) (hk : kindOf (.call c) = 0) (hg : goodVals ρ (.call c) = true) :
    CV (do let d ← resolve ρ c t; invoke d.target d.args) := by
  obtain ⟨callee, args, ts⟩ := c
  cases callee with
  | value f => simp [kindOf] at hk
  | invoke r m => simp [kindOf] at hk
  | builtin b =>
    have hres : ∀ (s : Sem Next), (do let d ← (pure { target := .builtin b ts t (args.map fun | .const _ => true | _ => false), args := args.map ρ } : Sem Deferred); invoke d.target d.args) = s → CV s → CV (do let d ← (pure { target := .builtin b ts t (args.map fun | .const _ => true | _ => false), args := args.map ρ } : Sem Deferred); invoke d.target d.args) := fun s e h => e ▸ h
    show CV (do let d ← (pure { target := .builtin b ts t (args.map fun | .const _ => true | _ => false), args := args.map ρ } : Sem Deferred); invoke d.target d.args)
    have hone : ∀ v, (args.map ρ)[0]? = some v → (args.all fun x => gv (ρ x)) = true → gv v = true := fun v hv ha => by
      rw [Array.getElem?_map] at hv
      cases h0 : args[0]? with
      | none => simp [h0] at hv
      | some x =>
        simp [h0] at hv
        subst hv
        exact all2 (p := fun x => gv (ρ x)) ha x (by simpa using Array.mem_of_getElem? h0)
    have htwo : args.size = 2 → (args.all fun x => gv (ρ x)) = true → ∃ u v, (args.map ρ).toList = [u, v] ∧ gv u = true ∧ gv v = true := fun hs ha => by
      obtain ⟨l⟩ := args
      match l, hs with
      | [x, y], _ =>
        have := all2 (p := fun x => gv (ρ x)) ha
        exact ⟨ρ x, ρ y, by simp, this x (by simp), this y (by simp)⟩
    cases b <;> simp [kindOf] at hk <;> simp only [goodVals] at hg
    case len => exact CV_of (CS_len ts t _ fun v hv => hone v hv hg)
    case cap => exact CV_of (CS_cap ts t _ fun v hv => hone v hv hg)
    case min =>
      obtain ⟨u, v, huv, hu, hv⟩ := htwo hk hg
      refine CV_of (s := Builtin.min_ ts t (args.map ρ)) ?_
      unfold Builtin.min_
      rw [huv]
      simp only [List.foldlM_cons, List.foldlM_nil]
      exact CS_bind (CS_min2 _ _ hu hv) fun _ => CS_pure _
    case max =>
      obtain ⟨u, v, huv, hu, hv⟩ := htwo hk hg
      refine CV_of (s := Builtin.max_ ts t (args.map ρ)) ?_
      unfold Builtin.max_
      rw [huv]
      simp only [List.foldlM_cons, List.foldlM_nil]
      exact CS_bind (CS_max2 _ _ hu hv) fun _ => CS_pure _

theorem CV_kind0 {ρ : Operand → Value} {o : Oper} (h : kindOf o.op = 0) (hg : goodVals ρ o.op = true) : CV (execOp ρ o) := by
  obtain ⟨dst, op, type, pos, after, guard⟩ := o
  cases op
  case call c => exact CV_call ρ c type h hg
  case nilCheck x =>
    unfold execOp
    simp only [goodVals] at hg
    dsimp only
    generalize ρ x = v at hg ⊢
    cases v <;> first | exact CV_pure _ | (simp [gp, gv] at hg; done) | (rename_i p; cases p <;> first | exact CV_pure _ | (simp [gp, gv] at hg; done))
  case binOp op t x y u =>
    unfold execOp
    simp only [goodVals, Bool.and_eq_true] at hg
    exact CV_of (CS_bind (CS_eqGuard _ _ _ _ _ _ hg.1) fun _ => CS_binOp _ _ _ _ hg.1 hg.2)
  case move x => exact CV_pure _
  case assign x => exact CV_pure _
  case pick c a b =>
    unfold execOp
    exact CV_bind (CS_asBool _) fun _ => CV_pure _
  case indexAddr t x i => exact CV_of (CS_indexAt _ _ _)
  case field t x f => exact CV_of (CS_field _ _ _)
  case index t x i => exact CV_of (CS_index _ _ _)
  case extract x i => exact CV_of (CS_extract _ _)
  case build t ps => exact CV_of (CS_build _ _)
  case unOp op t x => exact CV_of (CS_unary _ _)
  case slice t x lo hi mx => exact CV_of (CS_sliceAt _ _ _ _ _)
  all_goals simp [kindOf] at h
end Go.Proofs.YtjimcjhgjfhbiaaGreat
/- The law for a region that draws its order: one walk in the order of the text. -/
namespace Go.Proofs.YtjimcjhgjfhbiaaGreat
open Go

/-- What holds at the end of a region that goes through; nothing else ends it. -/
def Only (K : Act → World → Prop) : Exit → Act → World → Prop
  | .normal, a, w => K a w
  | _, _, _ => False
theorem Only.lets {K : Act → World → Prop} : ¬ LetsOut (Only K) := fun ⟨_, _, h⟩ => h

section
variable {P : Program} {ops : Array Oper} {K : Act → World → Prop}

/-- One operation, its operands asked. -/
def stepG (P : Program) (ops : Array Oper) (i : Nat) (next : Act → World → Prop) (a : Act) (w : World) : Prop :=
  match ops[i]? with
  | none => False
  | some o => if Region.wanted o (yielded ops a.tmps) then goodVals a.eval o.op = true ∧ o.wp P a w next (Only fun _ _ => False) else next (a.put o.dst undef) w

theorem only_wp {o : Oper} {a : Act} {w : World} {next : Act → World → Prop} {L : Act → World → Prop} (h : o.wp P a w next (Only fun _ _ => False)) : o.wp P a w next (Only L) := by
  unfold Oper.wp at *
  generalize (execOp a.eval o).run P w = r at *
  cases r with
  | ok n w' =>
    cases n <;> simp only [Oper.upon] at h ⊢
    case enter f args =>
      refine Calls.mono h fun e w'' he => ?_
      cases e with
      | returned v => exact he
      | panicked c => exact he
      | outgrown => exact (Only.lets he).elim
    all_goals exact h
  | halt x w' =>
    cases x <;> simp only [Oper.upon] at h ⊢
    case panic v => exact h

theorem stepG_mono {i : Nat} {n n' : Act → World → Prop} {a : Act} {w : World} (hn : ∀ a w, n a w → n' a w) (h : stepG P ops i n a w) : stepG P ops i n' a w := by
  unfold stepG at *
  split
  · rename_i ho; simp only [ho] at h
  · rename_i o ho
    simp only [ho] at h
    split
    · rename_i hw; simp only [hw, if_true] at h; exact ⟨h.1, Oper.wp_mono hn h.2⟩
    · rename_i hw; simp only [hw] at h; exact hn _ _ h

theorem stepG_wpOp {i : Nat} {n : Act → World → Prop} {a : Act} {w : World} (h : stepG P ops i n a w) : wpOp P ops (Only K) i n a w := by
  unfold stepG at h
  unfold wpOp
  split
  · rename_i ho; simp only [ho] at h
  · rename_i o ho
    simp only [ho] at h
    split
    · rename_i hw; simp only [hw, if_true] at h; exact .inl (only_wp h.2)
    · rename_i hw; simp only [hw] at h; exact h

/-- An operation that goes through comes somewhere. -/
theorem wp_out {o : Oper} {a : Act} {w : World} {next : Act → World → Prop} (h : o.wp P a w next (Only fun _ _ => False)) :
    ∃ a1 w1 v, next a1 w1 ∧ a1.tmps = (a.put o.dst v).tmps := by
  unfold Oper.wp at h
  generalize (execOp a.eval o).run P w = r at h
  cases r with
  | ok n w' =>
    cases n <;> simp only [Oper.upon] at h
    case value v => exact ⟨_, _, v, h, rfl⟩
    case skip => exact ⟨_, _, undef, h, rfl⟩
    case defer d => exact ⟨_, _, undef, h, by cases o.dst <;> rfl⟩
    case enter f args =>
      obtain ⟨e, w'', fr, hR, _⟩ := h []
      cases e with
      | returned v => exact ⟨_, _, v, hR, rfl⟩
      | panicked c => exact hR.elim
      | outgrown => exact (Only.lets hR).elim
    case row row args =>
      obtain ⟨v, w'', hR, _⟩ := h (Frame.enter P 0 #[] .normal) []
      exact ⟨_, _, v, hR, rfl⟩
  | halt x w' =>
    cases x <;> simp only [Oper.upon] at h
    case panic v => exact h.elim

theorem eval_of_tmps {a b : Act} (h : a.tmps = b.tmps) : a.eval = b.eval := by
  funext x; cases x <;> simp [Act.eval, h]

theorem good_congr {ρ ρ' : Operand → Value} (op : Op) (h : ∀ x ∈ op.operands, ρ x = ρ' x) : goodVals ρ op = goodVals ρ' op := by
  cases op <;> simp only [goodVals]
  case binOp b t x y u => rw [h x (by simp [Op.operands]), h y (by simp [Op.operands])]
  case nilCheck x => rw [h x (by simp [Op.operands])]
  case call c =>
    have hall : (c.args.all fun x => gv (ρ x)) = (c.args.all fun x => gv (ρ' x)) := by
      rw [Bool.eq_iff_iff, Array.all_eq_true_iff_forall_mem, Array.all_eq_true_iff_forall_mem]
      exact ⟨fun g x hx => by rw [← h x (by simp [Op.operands, Call.operands, hx])]; exact g x hx, fun g x hx => by rw [h x (by simp [Op.operands, Call.operands, hx])]; exact g x hx⟩
    split <;> first | rfl | exact hall
theorem good_put {o : Oper} {a : Act} {dst : Option Tmp} {v : Value} (h : ∀ d, dst = some d → d ∉ o.looksAt ops) : goodVals (a.put dst v).eval o.op = goodVals a.eval o.op :=
  good_congr o.op fun x hx => Act.eval_put fun d hd hxd => h d hd (by
    subst hxd
    exact List.mem_append_left _ (List.mem_filterMap.2 ⟨.tmp d, by simpa using hx, rfl⟩))

/-- What an operation of kind 0 or 1 yields. -/
theorem stepG_const {i : Nat} {o : Oper} (ho : ops[i]? = some o) (hk : kindOf o.op = 0) {n : Act → World → Prop} {a : Act} {w : World} (h : stepG P ops i n a w) :
    ∃ v, Yields P ops o v a ∧ n (a.put o.dst v) w := by
  unfold stepG at h
  simp only [ho] at h
  by_cases hw : Region.wanted o (yielded ops a.tmps) = true
  · simp only [hw, if_true] at h
    obtain ⟨hg, h⟩ := h
    unfold Oper.wp at h
    have hc := CV_kind0 hk hg
    cases hr : (execOp a.eval o).run P w with
    | ok x w' =>
      obtain ⟨⟨v, rfl⟩, rfl, hall⟩ := hc P w x w' hr
      rw [hr] at h
      exact ⟨v, .inl ⟨hw, hall⟩, h⟩
    | halt x w' => rw [hr] at h; cases x <;> simp only [Oper.upon] at h; exact h.elim
  · simp only [hw] at h
    exact ⟨undef, .inr ⟨by simpa using hw, rfl⟩, h⟩
theorem stepG_reads {i : Nat} {o : Oper} (ho : ops[i]? = some o) (hk : kindOf o.op ≤ 1) {n : Act → World → Prop} {a : Act} {w : World} (h : stepG P ops i n a w) :
    ∃ v, YieldsAt P ops w o v a ∧ n (a.put o.dst v) w := by
  unfold stepG at h
  simp only [ho] at h
  by_cases hw : Region.wanted o (yielded ops a.tmps) = true
  · simp only [hw, if_true] at h
    obtain ⟨hg, h⟩ := h
    unfold Oper.wp at h
    have hc : RV (execOp a.eval o) := by
      rcases Nat.lt_or_ge (kindOf o.op) 1 with h0 | h1
      · exact (CV_kind0 (by omega) hg).rv
      · exact RV_kind1 (by omega)
    cases hr : (execOp a.eval o).run P w with
    | ok x w' =>
      obtain ⟨⟨v, rfl⟩, rfl⟩ := hc P w x w' hr
      rw [hr] at h
      exact ⟨v, .inl ⟨hw, .inl hr⟩, h⟩
    | halt x w' => rw [hr] at h; cases x <;> simp only [Oper.upon] at h; exact h.elim
  · simp only [hw] at h
    exact ⟨undef, .inr ⟨by simpa using hw, rfl⟩, h⟩

/-- One operation's place behind another's, where it yields whatever the other does. -/
theorem stepG_in {i : Nat} {oi ot : Oper} {v : Value} (hi : ops[i]? = some oi) (hap : oi.apart ops ot = true)
    (hsi : ∀ cs b, oi.op ≠ .select cs b) (hst : ∀ cs b, ot.op ≠ .select cs b) {N M : Act → World → Prop} {a : Act} {w : World}
    (hN : ∀ a1 w1, N a1 w1 → Yields P ops ot v a1 → M (a1.put ot.dst v) w1)
    (hy : Yields P ops ot v a) (h : stepG P ops i N a w) : stepG P ops i M (a.put ot.dst v) w := by
  obtain ⟨h1, h2, h3⟩ := Oper.apart_spec hap
  have h2' : ∀ d, ot.dst = some d → oi.dst ≠ some d := fun d hd he => h2 d he hd
  have keep : ∀ (a : Act), Yields P ops ot v a → ∀ u, Yields P ops ot v (a.put oi.dst u) := fun a hy u =>
    hy.of_same (execOp_put ot hst a oi.dst u h1) (wanted_put ot a oi.dst u h1)
  have keepD : ∀ d, Yields P ops ot v { a with defers := d :: a.defers } := fun d => hy.of_same rfl rfl
  unfold stepG at *
  simp only [hi] at *
  rw [wanted_put oi a ot.dst v h3]
  split
  · rename_i hw
    simp only [hw, if_true] at h
    obtain ⟨hg, h⟩ := h
    refine ⟨by rw [good_put (ops := ops) h3]; exact hg, ?_⟩
    unfold Oper.wp at *
    rw [execOp_put oi hsi a ot.dst v h3]
    generalize (execOp a.eval oi).run P w = r at *
    cases r with
    | ok n w' =>
      cases n <;> simp only [Oper.upon] at h ⊢
      case value u => rw [Act.put_comm a v u h2']; exact hN _ _ h (keep a hy u)
      case skip => rw [Act.put_comm a v undef h2']; exact hN _ _ h (keep a hy undef)
      case defer d =>
        rw [Act.put_defers, Act.put_comm _ v undef h2']
        exact hN _ _ h (keep _ (keepD d) undef)
      case enter f args =>
        refine Calls.mono h fun e w'' he => ?_
        cases e with
        | returned u => dsimp only at he ⊢; rw [Act.put_comm a v u h2']; exact hN _ _ he (keep a hy u)
        | panicked c => exact he
        | outgrown => exact he
      case row row args => exact Rows.mono h fun u w'' he => by rw [Act.put_comm a v u h2']; exact hN _ _ he (keep a hy u)
    | halt x w' =>
      cases x <;> simp only [Oper.upon] at h ⊢
      case panic u => exact h
  · rename_i hw
    simp only [hw] at h
    rw [Act.put_comm a v undef h2']
    exact hN _ _ h (keep a hy undef)

def Yields1 (P : Program) (ops : Array Oper) (w : World) (o : Oper) (v : Value) (a : Act) : Prop :=
  (Region.wanted o (yielded ops a.tmps) = true ∧ (execOp a.eval o).run P w = .ok (.value v) w) ∨ (Region.wanted o (yielded ops a.tmps) = false ∧ v = undef)
theorem Yields_det {o : Oper} {v v' : Value} {a : Act} (h : Yields P ops o v a) (h' : Yields P ops o v' a) (w0 : World) : v = v' := by
  rcases h with ⟨hw, hv⟩ | ⟨hw, rfl⟩ <;> rcases h' with ⟨hw', hv'⟩ | ⟨hw', rfl⟩
  · have := (hv w0).symm.trans (hv' w0)
    cases this; rfl
  · rw [hw] at hw'; cases hw'
  · rw [hw] at hw'; cases hw'
  · rfl

/-- What a step asks of its operands. -/
def GoodAt (ops : Array Oper) (o : Oper) (a : Act) : Prop := Region.wanted o (yielded ops a.tmps) = true → goodVals a.eval o.op = true
theorem stepG_good {i : Nat} {o : Oper} (hi : ops[i]? = some o) {N : Act → World → Prop} {a : Act} {w : World} (h : stepG P ops i N a w) : GoodAt ops o a := by
  intro hw
  unfold stepG at h
  simp only [hi, hw, if_true] at h
  exact h.1
theorem GoodAt_put {o : Oper} {a : Act} {dst : Option Tmp} {v : Value} (h : ∀ d, dst = some d → d ∉ o.looksAt ops) : GoodAt ops o (a.put dst v) ↔ GoodAt ops o a := by
  unfold GoodAt
  rw [wanted_put o a dst v h, good_put (ops := ops) h]
theorem GoodAt_tmps {o : Oper} {a b : Act} (h : a.tmps = b.tmps) : GoodAt ops o a ↔ GoodAt ops o b := by
  unfold GoodAt
  rw [h, eval_of_tmps h]
theorem stepG_of_const {i : Nat} {o : Oper} {v : Value} {a : Act} {w : World} (hi : ops[i]? = some o) (hy : Yields P ops o v a) (hg : GoodAt ops o a)
    {N : Act → World → Prop} (h : N (a.put o.dst v) w) : stepG P ops i N a w := by
  unfold stepG
  simp only [hi]
  rcases hy with ⟨hw, hv⟩ | ⟨hw, rfl⟩
  · simp only [hw, if_true]; exact ⟨hg hw, by unfold Oper.wp; rw [hv]; exact h⟩
  · simp only [hw, Bool.false_eq_true, if_false]; exact h

theorem stepG_of_one {i : Nat} {o : Oper} {v : Value} {a : Act} {w : World} (hi : ops[i]? = some o) (hy : Yields1 P ops w o v a) (hg : GoodAt ops o a)
    {N : Act → World → Prop} (h : N (a.put o.dst v) w) : stepG P ops i N a w := by
  unfold stepG
  simp only [hi]
  rcases hy with ⟨hw, hv⟩ | ⟨hw, rfl⟩
  · simp only [hw, if_true]; exact ⟨hg hw, by unfold Oper.wp; rw [hv]; exact h⟩
  · simp only [hw, Bool.false_eq_true, if_false]; exact h

/-- One that yields in every world may come behind. -/
theorem stepG_behind {t : Nat} {oi ot : Oper} {v : Value} (ht : ops[t]? = some ot) (hap : oi.apart ops ot = true)
    (hsi : ∀ cs b, oi.op ≠ .select cs b) (hst : ∀ cs b, ot.op ≠ .select cs b) {N : Act → World → Prop} {a : Act} {w : World}
    (hy : Yields P ops oi v a) (hg : GoodAt ops oi a) (h : stepG P ops t N (a.put oi.dst v) w) :
    stepG P ops t (fun a' w' => (Yields P ops oi v a' ∧ GoodAt ops oi a') ∧ N (a'.put oi.dst v) w') a w := by
  obtain ⟨h1, h2, h3⟩ := Oper.apart_spec hap
  have keep : ∀ (a : Act), Yields P ops oi v a ∧ GoodAt ops oi a → ∀ u, Yields P ops oi v (a.put ot.dst u) ∧ GoodAt ops oi (a.put ot.dst u) := fun a hy u =>
    ⟨hy.1.of_same (execOp_put oi hsi a ot.dst u h3) (wanted_put oi a ot.dst u h3), (GoodAt_put h3).2 hy.2⟩
  have keepD : ∀ d, Yields P ops oi v { a with defers := d :: a.defers } ∧ GoodAt ops oi { a with defers := d :: a.defers } := fun d => ⟨hy.of_same rfl rfl, hg⟩
  unfold stepG at *
  simp only [ht] at *
  rw [wanted_put ot a oi.dst v h1] at h
  split
  · rename_i hw
    simp only [hw, if_true] at h
    obtain ⟨hgt, h⟩ := h
    refine ⟨by rw [good_put (ops := ops) h1] at hgt; exact hgt, ?_⟩
    unfold Oper.wp at *
    rw [execOp_put ot hst a oi.dst v h1] at h
    generalize (execOp a.eval ot).run P w = r at *
    cases r with
    | ok n w' =>
      cases n <;> simp only [Oper.upon] at h ⊢
      case value u => exact ⟨keep a ⟨hy, hg⟩ u, by rw [← Act.put_comm a v u h2]; exact h⟩
      case skip => exact ⟨keep a ⟨hy, hg⟩ _, by rw [← Act.put_comm a v undef h2]; exact h⟩
      case defer d =>
        refine ⟨keep _ (keepD d) _, ?_⟩
        rw [← Act.put_comm _ v undef h2, ← Act.put_defers]
        exact h
      case enter f args =>
        refine Calls.mono h fun e w'' he => ?_
        cases e with
        | returned u => exact ⟨keep a ⟨hy, hg⟩ u, by rw [← Act.put_comm a v u h2]; exact he⟩
        | panicked c => exact he
        | outgrown => exact he
      case row row args => exact Rows.mono h fun u w'' he => ⟨keep a ⟨hy, hg⟩ u, by rw [← Act.put_comm a v u h2]; exact he⟩
    | halt x w' =>
      cases x <;> simp only [Oper.upon] at h ⊢
      case panic u => exact h
  · rename_i hw
    simp only [hw] at h
    exact ⟨keep a ⟨hy, hg⟩ _, by rw [← Act.put_comm a v undef h2]; exact h⟩

theorem stepG_swap {i t : Nat} {oi ot : Oper} (hi : ops[i]? = some oi) (ht : ops[t]? = some ot) (hap : oi.apart ops ot = true)
    (hsi : ∀ cs b, oi.op ≠ .select cs b) (hst : ∀ cs b, ot.op ≠ .select cs b)
    (hk : kindOf oi.op = 0 ∨ kindOf ot.op = 0 ∨ (kindOf oi.op ≤ 1 ∧ kindOf ot.op ≤ 1)) {N : Act → World → Prop} {a : Act} {w : World}
    (h : stepG P ops i (stepG P ops t N) a w) : stepG P ops t (stepG P ops i N) a w := by
  obtain ⟨h1, h2, h3⟩ := Oper.apart_spec hap
  have hgi := stepG_good hi h
  rcases hk with hk | hk | ⟨hk1, hk2⟩
  · obtain ⟨v, hy, h4⟩ := stepG_const hi hk h
    exact stepG_mono (fun a' w' h5 => stepG_of_const hi h5.1.1 h5.1.2 h5.2) (stepG_behind ht hap hsi hst hy hgi h4)
  · have hout : ∃ v, Yields P ops ot v a ∧ GoodAt ops ot a := by
      have hex : ∃ a1 w1 u, stepG P ops t N a1 w1 ∧ a1.tmps = (a.put oi.dst u).tmps := by
        have h' := h
        unfold stepG at h'
        simp only [hi] at h'
        by_cases hw : Region.wanted oi (yielded ops a.tmps) = true
        · simp only [hw, if_true] at h'
          exact wp_out h'.2
        · simp only [hw] at h'
          exact ⟨_, _, undef, h', rfl⟩
      obtain ⟨a1, w1, u, h5, htm⟩ := hex
      obtain ⟨v, hy, _⟩ := stepG_const ht hk h5
      refine ⟨v, hy.of_same ?_ ?_, ?_⟩
      · rw [eval_of_tmps htm, execOp_put ot hst a oi.dst u h1]
      · rw [htm, wanted_put ot a oi.dst u h1]
      · exact (GoodAt_put h1).1 ((GoodAt_tmps htm).1 (stepG_good ht h5))
    obtain ⟨v, hy, hg⟩ := hout
    refine stepG_of_const ht hy hg ?_
    refine stepG_in hi hap hsi hst (fun a1 w1 h5 hy1 => ?_) hy h
    obtain ⟨v', hy', h6⟩ := stepG_const ht hk h5
    rw [Yields_det hy1 hy' w1]
    exact h6
  · obtain ⟨v, hy, h4⟩ := stepG_reads hi hk1 h
    obtain ⟨u, hu, h5⟩ := stepG_reads ht hk2 h4
    have hgt := (GoodAt_put h1).1 (stepG_good ht h4)
    have hu' : YieldsAt P ops w ot u a := hu.of_same (execOp_put ot hst a oi.dst v h1).symm (wanted_put ot a oi.dst v h1).symm
    have hy' : YieldsAt P ops w oi v (a.put ot.dst u) := hy.of_same (execOp_put oi hsi a ot.dst u h3) (wanted_put oi a ot.dst u h3)
    have noEnter : ∀ {o : Oper} {a : Act}, kindOf o.op ≤ 1 → GoodAt ops o a → ∀ x, YieldsAt P ops w o x a → Yields1 P ops w o x a := fun {o a} hk hg x hx => by
      rcases hx with ⟨hw, hv | ⟨hv, rfl⟩ | ⟨f, args, hv, hc⟩⟩ | ⟨hw, rfl⟩
      · exact .inl ⟨hw, hv⟩
      · have hr : RV (execOp a.eval o) := by
          rcases Nat.lt_or_ge (kindOf o.op) 1 with h0 | h1
          · exact (CV_kind0 (by omega) (hg hw)).rv
          · exact RV_kind1 (by omega)
        obtain ⟨⟨v, hv2⟩, _⟩ := hr P w _ w hv
        cases hv2
      · have hr : RV (execOp a.eval o) := by
          rcases Nat.lt_or_ge (kindOf o.op) 1 with h0 | h1
          · exact (CV_kind0 (by omega) (hg hw)).rv
          · exact RV_kind1 (by omega)
        obtain ⟨⟨v, hv2⟩, _⟩ := hr P w _ w hv
        cases hv2
      · exact .inr ⟨hw, rfl⟩
    refine stepG_of_one ht (noEnter hk2 hgt u hu') hgt ?_
    refine stepG_of_one hi (noEnter hk1 ((GoodAt_put h3).2 hgi) v hy') ((GoodAt_put h3).2 hgi) ?_
    rw [← Act.put_comm a v u h2]
    exact h5
end
end Go.Proofs.YtjimcjhgjfhbiaaGreat
/- The law for a region that draws its order: the closed look, and the law. -/
namespace Go.Proofs.YtjimcjhgjfhbiaaGreat
open Go

section
variable {P : Program} {ops : Array Oper} {K : Act → World → Prop}

/-- The operations of a list of places, one behind the other. -/
def walkG (P : Program) (ops : Array Oper) (K : Act → World → Prop) : List Nat → Act → World → Prop
  | [], a, w => K a w
  | i :: r, a, w => stepG P ops i (walkG P ops K r) a w

/-- Two places may change. -/
def mayChange (ops : Array Oper) (i t : Nat) : Prop :=
  ∀ oi ot, ops[i]? = some oi → ops[t]? = some ot → oi.apart ops ot = true ∧ (kindOf oi.op = 0 ∨ kindOf ot.op = 0 ∨ (kindOf oi.op ≤ 1 ∧ kindOf ot.op ≤ 1))

theorem walkG_first (hsel : Region.noSelect ops = true) {i : Nat} (hlt : i < ops.size) : ∀ (τ ρ : List Nat) (a : Act) (w : World), (∀ t ∈ τ, t < ops.size ∧ mayChange ops t i) →
    walkG P ops K (τ ++ i :: ρ) a w → stepG P ops i (walkG P ops K (τ ++ ρ)) a w
  | [], ρ, a, w, _, h => h
  | t :: τ, ρ, a, w, hτ, h => by
    obtain ⟨ht, hc⟩ := hτ t (by simp)
    have h1 : stepG P ops t (stepG P ops i (walkG P ops K (τ ++ ρ))) a w :=
      stepG_mono (fun a' w' h' => walkG_first hsel hlt τ ρ a' w' (fun x hx => hτ x (by simp [hx])) h') h
    have e1 : ops[t]? = some ops[t] := Array.getElem?_eq_getElem ht
    have e2 : ops[i]? = some ops[i] := Array.getElem?_eq_getElem hlt
    obtain ⟨hap, hk⟩ := hc _ _ e1 e2
    exact stepG_swap e1 e2 hap (fun cs b => Region.noSelect_spec hsel t _ cs b e1) (fun cs b => Region.noSelect_spec hsel i _ cs b e2) hk h1

/-- The places not yet taken, in the order of the text. -/
def rem (ops : Array Oper) (listed : Array Bool) : List Nat := (List.range ops.size).filter fun i => !listed.getD i true

theorem mem_rem {listed : Array Bool} {i : Nat} : i ∈ rem ops listed ↔ i < ops.size ∧ listed.getD i true = false := by
  simp [rem]

theorem rem_split {listed : Array Bool} (hs : listed.size = ops.size) {i : Nat} (hi : i ∈ rem ops listed) :
    ∃ τ ρ, rem ops listed = τ ++ i :: ρ ∧ rem ops (listed.setIfInBounds i true) = τ ++ ρ ∧ ∀ t ∈ τ, t < i ∧ t ∈ rem ops listed := by
  obtain ⟨hlt, hun⟩ := mem_rem.1 hi
  have hr : List.range ops.size = List.range i ++ i :: List.range' (i + 1) (ops.size - i - 1) := by
    rw [List.range_eq_range', List.range_eq_range']
    have h1 : List.range' 0 ops.size = List.range' 0 i ++ List.range' (0 + 1 * i) (ops.size - i) := by
      rw [List.range'_append]
      congr 1
      omega
    rw [h1]
    congr 1
    rw [show ops.size - i = (ops.size - i - 1) + 1 from by omega, List.range'_succ]
    simp
  refine ⟨(List.range i).filter fun j => !listed.getD j true, (List.range' (i + 1) (ops.size - i - 1)).filter fun j => !listed.getD j true, ?_, ?_, ?_⟩
  · unfold rem
    rw [hr, List.filter_append, List.filter_cons]
    simp only [hun, Bool.not_false, if_true]
  · unfold rem
    rw [hr, List.filter_append, List.filter_cons]
    have hin : (listed.setIfInBounds i true).getD i true = true := by simp [hs, hlt]
    rw [hin]
    simp only [Bool.not_true, Bool.false_eq_true, if_false]
    congr 1
    · refine List.filter_congr fun j hj => ?_
      rw [getD_set_ne true (by have := List.mem_range.1 hj; omega)]
    · refine List.filter_congr fun j hj => ?_
      rw [getD_set_ne true (by have := (List.mem_range'_1.1 hj).1; omega)]
  · intro t ht
    have h1 := List.mem_filter.1 ht
    have h2 := List.mem_range.1 h1.1
    exact ⟨h2, mem_rem.2 ⟨by omega, by simpa using h1.2⟩⟩

/-- What has been taken had all taken that it waits for. -/
def Closed (ops : Array Oper) (listed : Array Bool) : Prop :=
  ∀ j oj, ops[j]? = some oj → listed.getD j false = true → ∀ e ∈ oj.after, Region.binds .any e = true → listed.getD e.on false = true

theorem Closed.set {i : Nat} {listed : Array Bool} (h : Closed ops listed) (hi : i ∈ Region.ready .any ops listed) : Closed ops (listed.setIfInBounds i true) := by
  intro j oj hj hl e he hb
  obtain ⟨_, oi, hoi, hall⟩ := mem_ready.1 hi
  by_cases hij : i = j
  · subst hij
    have : oj = oi := Option.some.inj (hj.symm.trans hoi)
    subst this
    exact getD_set_true (hall e he hb)
  · rw [getD_set_ne false hij] at hl
    exact getD_set_true (h j oj hj hl e he hb)

theorem getD_replicate0 (m j : Nat) : (Array.replicate m false).getD j false = false := by
  rcases Nat.lt_or_ge j m with h | h
  · simp [h]
  · simp [h]
/-- What each operation waits for, at whatever remove: a list of numbers read as sets. -/
def waits : List Oper → List Nat → List Nat
  | [], acc => acc
  | o :: r, acc => waits r (acc ++ [o.after.toList.foldl (fun s e => if Region.binds .any e then s ||| 2 ^ e.on ||| acc.getD e.on 0 else s) 0])

theorem foldl_or (acc : List Nat) (t : Nat) : ∀ (es : List Edge) (s : Nat), (es.foldl (fun s e => if Region.binds .any e then s ||| 2 ^ e.on ||| acc.getD e.on 0 else s) s).testBit t = true →
    s.testBit t = true ∨ ∃ e ∈ es, Region.binds .any e = true ∧ (e.on = t ∨ (acc.getD e.on 0).testBit t = true)
  | [], s, h => .inl h
  | e :: es, s, h => by
    rw [List.foldl_cons] at h
    rcases foldl_or acc t es _ h with h1 | ⟨e', he', hb, hx⟩
    · by_cases hb : Region.binds .any e = true
      · rw [if_pos hb, Nat.testBit_or, Nat.testBit_or, Nat.testBit_two_pow, Bool.or_eq_true, Bool.or_eq_true] at h1
        rcases h1 with (h1 | h1) | h1
        · exact .inl h1
        · exact .inr ⟨e, by simp, hb, .inl (by simpa using h1)⟩
        · exact .inr ⟨e, by simp, hb, .inr h1⟩
      · rw [if_neg hb] at h1
        exact .inl h1
    · exact .inr ⟨e', by simp [he'], hb, hx⟩

/-- The list as far as it goes tells the truth. -/
def Truth (ops : Array Oper) (acc : List Nat) : Prop :=
  ∀ i t, i < acc.length → (acc.getD i 0).testBit t = true → ∃ oi, ops[i]? = some oi ∧ ∃ e ∈ oi.after, Region.binds .any e = true ∧ (e.on = t ∨ (e.on < i ∧ (acc.getD e.on 0).testBit t = true))

theorem waits_truth (hback : ∀ i oi, ops[i]? = some oi → ∀ e ∈ oi.after, Region.binds .any e = true → e.on < i) :
    ∀ (l : List Oper) (acc : List Nat), (∀ j, l[j]? = ops[acc.length + j]?) → Truth ops acc → Truth ops (waits l acc)
  | [], acc, _, h => h
  | o :: r, acc, hl, h => by
    unfold waits
    have ho : ops[acc.length]? = some o := by simpa using (hl 0).symm
    refine waits_truth hback r _ (fun j => by have := hl (j + 1); simpa [Nat.add_assoc, Nat.add_comm 1 j] using this) ?_
    intro i t hi hb
    rw [List.length_append, List.length_singleton] at hi
    rcases Nat.lt_or_ge i acc.length with h1 | h1
    · have e1 : ∀ x, x < acc.length → (acc ++ [o.after.toList.foldl (fun s e => if Region.binds .any e then s ||| 2 ^ e.on ||| acc.getD e.on 0 else s) 0]).getD x 0 = acc.getD x 0 := fun x hx => by
        simp [List.getD_eq_getElem?_getD, List.getElem?_append_left hx]
      rw [e1 i h1] at hb
      obtain ⟨oi, hoi, e, he, hbe, hx⟩ := h i t h1 hb
      exact ⟨oi, hoi, e, he, hbe, hx.imp id fun hx => ⟨hx.1, by rw [e1 _ (by omega)]; exact hx.2⟩⟩
    · obtain rfl : i = acc.length := by omega
      have e0 : (acc ++ [o.after.toList.foldl (fun s e => if Region.binds .any e then s ||| 2 ^ e.on ||| acc.getD e.on 0 else s) 0]).getD acc.length 0 = o.after.toList.foldl (fun s e => if Region.binds .any e then s ||| 2 ^ e.on ||| acc.getD e.on 0 else s) 0 := by
        simp [List.getD_eq_getElem?_getD]
      rw [e0] at hb
      rcases foldl_or acc t _ _ hb with h2 | ⟨e, he, hbe, hx⟩
      · simp at h2
      · have he' : e ∈ o.after := by simpa using he
        have hlt := hback _ _ ho e he' hbe
        refine ⟨o, ho, e, he', hbe, hx.imp id fun hx => ⟨hlt, ?_⟩⟩
        have e1 : (acc ++ [o.after.toList.foldl (fun s e => if Region.binds .any e then s ||| 2 ^ e.on ||| acc.getD e.on 0 else s) 0]).getD e.on 0 = acc.getD e.on 0 := by
          simp [List.getD_eq_getElem?_getD, List.getElem?_append_left hlt]
        rw [e1]; exact hx

theorem Truth.listed {acc : List Nat} (h : Truth ops acc) {listed : Array Bool} (hcl : Closed ops listed) : ∀ (i : Nat) (oi : Oper) (t : Nat), i < acc.length → ops[i]? = some oi →
    (∀ e ∈ oi.after, Region.binds .any e = true → listed.getD e.on false = true) → (acc.getD i 0).testBit t = true → listed.getD t false = true := by
  intro i
  induction i using Nat.strongRecOn with
  | _ i ih =>
    intro oi t hi hoi hall hb
    obtain ⟨oi', hoi', e, he, hbe, hx⟩ := h i t hi hb
    have : oi' = oi := Option.some.inj (hoi'.symm.trans hoi)
    subst this
    rcases hx with rfl | ⟨hlt, hx⟩
    · exact hall e he hbe
    · have hon := hall e he hbe
      have hsz : e.on < ops.size := by have := (Array.getElem?_eq_some_iff.1 hoi).1; omega
      have e1 : ops[e.on]? = some ops[e.on] := Array.getElem?_eq_getElem hsz
      exact ih e.on hlt _ t (by omega) e1 (hcl e.on _ e1 hon) hx

/-- What holds at a drawn region's end: what its operands held was of a plain kind. -/
def OnlyG (l : List Oper) (K : Act → World → Prop) : Exit → Act → World → Prop
  | .normal, a, w => (l.all fun o => goodVals a.eval o.op || !Region.wanted o (yielded l.toArray a.tmps)) = true ∧ K a w
  | _, _, _ => False
theorem OnlyG.intro {l : List Oper} {K : Act → World → Prop} {a : Act} {w : World} (h : (l.all fun o => goodVals a.eval o.op || !Region.wanted o (yielded l.toArray a.tmps)) = true) (hK : K a w) : OnlyG l K .normal a w := ⟨h, hK⟩
theorem OnlyG.lets {l : List Oper} {K : Act → World → Prop} : ¬ LetsOut (OnlyG l K) := fun ⟨_, _, h⟩ => h

theorem wp_strict {o : Oper} {a : Act} {w : World} {next : Act → World → Prop} {l : List Oper} (h : o.wp P a w next (OnlyG l K)) : o.wp P a w next (Only fun _ _ => False) := by
  unfold Oper.wp at *
  generalize (execOp a.eval o).run P w = r at *
  cases r with
  | ok n w' =>
    cases n <;> simp only [Oper.upon] at h ⊢
    case enter f args =>
      refine Calls.mono h fun e w'' he => ?_
      cases e with
      | returned v => exact he
      | panicked c => exact he
      | outgrown => exact (OnlyG.lets he).elim
    all_goals exact h
  | halt x w' =>
    cases x <;> simp only [Oper.upon] at h ⊢
    case panic v => exact h

theorem good_default {ρ : Operand → Value} {op : Op} (h : asksVals op = false) : goodVals ρ op = true := by
  cases op <;> simp [asksVals] at h <;> rfl

theorem list_walk {l0 : List Oper} (h0 : ops = l0.toArray) : ∀ (l : List Oper) (p : Nat), (∀ j, l[j]? = ops[p + j]?) →
    (∀ (j q : Nat) (o o' : Oper), l[j]? = some o → l[q]? = some o' → j ≤ q → asksVals o.op = true → ∀ d, o'.dst = some d → d ∉ o.looksAt ops) →
    ∀ (a : Act) (w : World), wpList P ops (OnlyG l0 K) l a w →
    walkG P ops K (List.range' p l.length) a w ∧ ∃ a' w', (l0.all fun o => goodVals a'.eval o.op || !Region.wanted o (yielded l0.toArray a'.tmps)) = true ∧ K a' w' ∧
      ∀ s, (∀ o ∈ l, o.dst ≠ some s) → a'.tmps[s]? = a.tmps[s]?
  | [], p, _, _, a, w, h => ⟨h.2, a, w, h.1, h.2, fun _ _ => rfl⟩
  | o :: r, p, hl, hst, a, w, h => by
    have ho : ops[p]? = some o := by simpa using (hl 0).symm
    have hl' : ∀ j, r[j]? = ops[p + 1 + j]? := fun j => by have := hl (j + 1); simpa [Nat.add_assoc, Nat.add_comm 1 j] using this
    have hst' : ∀ (j q : Nat) (o o' : Oper), r[j]? = some o → r[q]? = some o' → j ≤ q → asksVals o.op = true → ∀ d, o'.dst = some d → d ∉ o.looksAt ops := fun j q o o' h1 h2 h3 => hst (j + 1) (q + 1) o o' (by simpa using h1) (by simpa using h2) (by omega)
    have ih := list_walk h0 r (p + 1) hl' hst'
    rw [List.length_cons, List.range'_succ]
    unfold wpList at h
    -- what the step ahead of the rest leaves at the end
    have fin : ∀ (a1 : Act) (v : Value), a1.tmps = (a.put o.dst v).tmps → (∃ a' w', (l0.all fun o => goodVals a'.eval o.op || !Region.wanted o (yielded l0.toArray a'.tmps)) = true ∧ K a' w' ∧ ∀ s, (∀ o ∈ r, o.dst ≠ some s) → a'.tmps[s]? = a1.tmps[s]?) →
        GoodAt ops o a ∧ ∃ a' w', (l0.all fun o => goodVals a'.eval o.op || !Region.wanted o (yielded l0.toArray a'.tmps)) = true ∧ K a' w' ∧ ∀ s, (∀ o' ∈ o :: r, o'.dst ≠ some s) → a'.tmps[s]? = a.tmps[s]? := by
      rintro a1 v htm ⟨a', w', hall, hK, hs⟩
      have keep : ∀ s, (∀ o' ∈ o :: r, o'.dst ≠ some s) → a'.tmps[s]? = a.tmps[s]? := fun s hn => by
        rw [hs s fun o' ho' => hn o' (by simp [ho']), htm]
        have := hn o (by simp)
        cases hd : o.dst with
        | none => rfl
        | some d =>
          have hne : d ≠ s := fun e => this (by rw [hd, e])
          simp [Act.put, Array.getElem?_setIfInBounds_ne hne]
      refine ⟨fun hw => ?_, a', w', hall, hK, keep⟩
      cases hask : asksVals o.op with
      | false => exact good_default hask
      | true =>
        have hlook : ∀ d, d ∈ o.looksAt ops → a'.tmps[d]? = a.tmps[d]? := fun d hd => keep d fun o' ho' he => by
          obtain ⟨q, hq, hq'⟩ := List.getElem_of_mem ho'
          exact hst 0 q o o' rfl (by rw [List.getElem?_eq_getElem hq, hq']) (Nat.zero_le _) hask d he hd
        have hev : ∀ x ∈ o.op.operands, a'.eval x = a.eval x := fun x hx => by
          cases x with
          | tmp d =>
            have : d ∈ o.looksAt ops := List.mem_append_left _ (List.mem_filterMap.2 ⟨.tmp d, by simpa using hx, rfl⟩)
            simp [Act.eval, Array.getD_eq_getD_getElem?, hlook d this]
          | _ => rfl
        have hwa : Region.wanted o (yielded ops a'.tmps) = Region.wanted o (yielded ops a.tmps) := by
          unfold Region.wanted
          cases hg : o.guard with
          | none => rfl
          | some gw =>
            obtain ⟨g, want⟩ := gw
            have hy : yielded ops a'.tmps g = yielded ops a.tmps g := by
              unfold yielded
              cases ht : (ops[g]?).bind (·.dst) with
              | none => rfl
              | some d =>
                have : d ∈ o.looksAt ops := by simp [Oper.looksAt, hg, ht]
                simp [hlook d this]
            simp only [hy]
        have hmem : o ∈ l0 := by
          have := Array.mem_of_getElem? ho
          rw [h0] at this
          simpa using this
        have h9 := List.all_eq_true.1 hall o hmem
        rw [← h0, hwa, hw, good_congr o.op hev] at h9
        simpa using h9
    by_cases hw : Region.wanted o (yielded ops a.tmps) = true
    · rw [if_pos hw] at h
      rcases h with h | ⟨_, hlets⟩
      case inr => exact (OnlyG.lets hlets).elim
      have h1 := wp_strict h
      have h2 := Oper.wp_mono (fun a1 w1 hr => ih a1 w1 hr) h1
      obtain ⟨a1, w1, v, h3, htm⟩ := wp_out h2
      obtain ⟨hg, hfin⟩ := fin a1 v htm h3.2
      refine ⟨?_, hfin⟩
      show stepG P ops p _ a w
      unfold stepG
      simp only [ho, hw, if_true]
      exact ⟨hg hw, Oper.wp_mono (fun a1 w1 hr => hr.1) h2⟩
    · rw [if_neg hw] at h
      have h2 := ih _ _ h
      obtain ⟨hg, hfin⟩ := fin (a.put o.dst undef) undef rfl h2.2
      refine ⟨?_, hfin⟩
      show stepG P ops p _ a w
      unfold stepG
      simp only [ho, hw, if_false, Bool.false_eq_true]
      exact h2.1

/-- THE CLOSED LOOK. -/
def lexB (ops : Array Oper) : Bool :=
  Region.noSelect ops && (List.range ops.size).all fun i => match ops[i]? with
    | none => true
    | some oi =>
      (oi.after.toList.all fun e => !Region.binds .any e || decide (e.on < i)) &&
      (!asksVals oi.op || (List.range ops.size).all fun q => decide (q < i) || match (ops[q]?).bind (·.dst) with
        | some d => !(oi.looksAt ops).contains d
        | none => true) &&
      (List.range i).all fun t => ((waits ops.toList []).getD i 0).testBit t || match ops[t]? with
        | none => true
        | some ot => ot.apart ops oi && (kindOf ot.op == 0 || kindOf oi.op == 0 || (decide (kindOf ot.op ≤ 1) && decide (kindOf oi.op ≤ 1)))

theorem walk_any (hsel : Region.noSelect ops = true) (hback : ∀ i oi, ops[i]? = some oi → ∀ e ∈ oi.after, Region.binds .any e = true → e.on < i) {acc : List Nat} (hacc : acc.length = ops.size) (htr : Truth ops acc)
    (hpair : ∀ i t, i < ops.size → t < i → (acc.getD i 0).testBit t = true ∨ mayChange ops t i) :
    ∀ (fuel : Nat) (listed : Array Bool) (a : Act) (w : World), listed.size = ops.size → Closed ops listed → (rem ops listed).length ≤ fuel →
    walkG P ops K (rem ops listed) a w → wpAny P .any ops (Only K) fuel listed a w := by
  have hrem : ∀ listed : Array Bool, listed.size = ops.size → Closed ops listed → Region.ready .any ops listed = [] → rem ops listed = [] := fun listed hs hcl hr => by
    cases hm : rem ops listed with
    | nil => rfl
    | cons i l =>
      exfalso
      have hi : i ∈ rem ops listed := by rw [hm]; simp
      obtain ⟨hlt, hun⟩ := mem_rem.1 hi
      obtain ⟨τ, ρ, e1, _, e3⟩ := rem_split hs hi
      have hτ : τ = [] := by
        cases τ with
        | nil => rfl
        | cons x τ =>
          rw [hm] at e1
          have hx : i = x := (List.cons.inj e1).1
          have := (e3 x (by simp)).1
          omega
      have eo : ops[i]? = some ops[i] := Array.getElem?_eq_getElem hlt
      have : i ∈ Region.ready .any ops listed := mem_ready.2 ⟨hun, _, eo, fun e he hb => by
        have hlt' := hback i _ eo e he hb
        by_cases hle : listed.getD e.on false = true
        · exact hle
        · exfalso
          have hmem : e.on ∈ rem ops listed := mem_rem.2 ⟨by omega, by
            have : e.on < listed.size := by omega
            simp [this] at hle ⊢; exact hle⟩
          rw [e1, hτ, List.nil_append] at hmem
          -- the rest of the list lies behind i
          have hlow : ∀ x ∈ rem ops listed, i ≤ x := fun x hx => by
            obtain ⟨τ', ρ', f1, _, f3⟩ := rem_split hs hx
            by_cases hτ' : τ' = []
            · rw [hτ', List.nil_append, hm] at f1
              have := (List.cons.inj f1).1; omega
            · cases τ' with
              | nil => exact absurd rfl hτ'
              | cons y τ' =>
                rw [hm] at f1
                have := (List.cons.inj f1).1
                have := (f3 y (by simp)).1
                omega
          have := hlow e.on (by rw [e1, hτ, List.nil_append]; exact hmem)
          omega⟩
      rw [hr] at this
      cases this
  intro fuel
  induction fuel with
  | zero =>
    intro listed a w hs hcl hlen h
    have hnil : rem ops listed = [] := List.eq_nil_of_length_eq_zero (by omega)
    refine ⟨?_, by rw [hnil] at h; exact h⟩
    cases hr : Region.ready .any ops listed with
    | nil => rfl
    | cons i l =>
      have hi : i ∈ Region.ready .any ops listed := by rw [hr]; simp
      obtain ⟨hun, o, ho, _⟩ := mem_ready.1 hi
      have : i ∈ rem ops listed := mem_rem.2 ⟨(Array.getElem?_eq_some_iff.1 ho).1, hun⟩
      rw [hnil] at this
      cases this
  | succ fuel ih =>
    intro listed a w hs hcl hlen h
    refine ⟨fun hr => by rw [hrem listed hs hcl hr] at h; exact h, fun i hi => ?_⟩
    obtain ⟨hun, o, ho, hall⟩ := mem_ready.1 hi
    have hlt : i < ops.size := (Array.getElem?_eq_some_iff.1 ho).1
    obtain ⟨τ, ρ, e1, e2, e3⟩ := rem_split hs (mem_rem.2 ⟨hlt, hun⟩)
    rw [e1] at h
    have hstep := walkG_first hsel hlt τ ρ a w (fun t ht => by
      obtain ⟨h1, h2⟩ := e3 t ht
      refine ⟨by omega, (hpair i t hlt h1).resolve_left fun hb => ?_⟩
      have := htr.listed hcl i o t (by omega) ho hall hb
      have h3 := (mem_rem.1 h2).2
      have h4 : t < listed.size := by omega
      simp [h4] at this h3
      rw [h3] at this
      cases this) h
    refine wpOp_mono (fun a' w' h' => ih _ a' w' (by simpa using hs) (hcl.set hi) ?_ (by rw [e2]; exact h')) (stepG_wpOp hstep)
    rw [e2]
    rw [e1] at hlen
    simp only [List.length_append, List.length_cons] at hlen ⊢
    omega

theorem waits_length : ∀ (l : List Oper) (acc : List Nat), (waits l acc).length = acc.length + l.length
  | [], acc => by simp [waits]
  | o :: r, acc => by unfold waits; rw [waits_length r]; simp; omega

/-- THE LAW: a region that draws its order, walked in the order of the text. -/
theorem wp_region_lex {id : Nat} {l : List Oper} {Q : Exit → Act → World → Prop} {a : Act} {w : World} (hm : P.follows .mixedOrders = true) (hB : lexB l.toArray = true)
    (h : wpList P l.toArray (OnlyG l (Q .normal)) l a w.drew) : (Code.region id l.toArray true).wp P Q a w := by
  refine Code.wp_mono (Q := Only (Q .normal)) (fun e a w hq => by cases e <;> first | exact hq | exact hq.elim) ?_
  refine wp_region_any hm ?_
  generalize hops : l.toArray = ops at *
  unfold lexB at hB
  simp only [Bool.and_eq_true, List.all_eq_true, List.mem_range] at hB
  obtain ⟨hsel, hB⟩ := hB
  have hB' : ∀ i oi, ops[i]? = some oi → _ := fun i oi hi => by
    have := hB i (Array.getElem?_eq_some_iff.1 hi).1
    simp only [hi, Bool.and_eq_true, List.all_eq_true, List.mem_range] at this
    exact this
  have hback : ∀ i oi, ops[i]? = some oi → ∀ e ∈ oi.after, Region.binds .any e = true → e.on < i := fun i oi hi e he hb => by
    have := (hB' i oi hi).1.1 e (by simpa using he)
    simpa [hb] using this
  have hlen : l.length = ops.size := by rw [← hops]; simp
  have hl : ∀ j, l[j]? = ops[0 + j]? := fun j => by rw [← hops]; simp
  have htr : Truth ops (waits ops.toList []) := waits_truth hback ops.toList [] (fun j => by simp) (fun i t hi => by simp at hi)
  have hw := (list_walk (P := P) (K := Q .normal) hops.symm l 0 hl (fun j q o o' h1 h2 hjq hask d hd hm => by
    have hj : ops[j]? = some o := by rw [← h1, hl]; simp
    have hq : ops[q]? = some o' := by rw [← h2, hl]; simp
    have h5 := (hB' j o hj).1.2
    rw [hask] at h5
    simp only [Bool.not_true, Bool.false_or, List.all_eq_true, List.mem_range] at h5
    have h6 := h5 q (Array.getElem?_eq_some_iff.1 hq).1
    simp only [hq, Option.bind_some, hd, Bool.or_eq_true, decide_eq_true_eq] at h6
    rcases h6 with h6 | h6
    · omega
    · simp [hm] at h6) a w.drew h).1
  have hr0 : rem ops (Array.replicate ops.size false) = List.range' 0 l.length := by
    unfold rem
    rw [hlen, ← List.range_eq_range', List.filter_eq_self]
    intro i hi
    have := List.mem_range.1 hi
    simp [this]
  refine walk_any hsel hback (acc := waits ops.toList []) (by rw [waits_length]; simp) htr (fun i t hi ht => ?_) ops.size _ a _ (by simp) (fun j oj _ hl => by rw [getD_replicate0] at hl; cases hl) ?_ ?_
  · have h1 := (hB' i _ (Array.getElem?_eq_getElem hi)).2 t ht
    simp only [Bool.or_eq_true] at h1
    rcases h1 with h1 | h1
    · exact .inl h1
    · refine .inr fun ot oi hot hoi => ?_
      have e1 : oi = ops[i] := Option.some.inj (hoi.symm.trans (Array.getElem?_eq_getElem hi))
      subst e1
      simp only [hot, Bool.and_eq_true, Bool.or_eq_true, beq_iff_eq, decide_eq_true_eq] at h1
      obtain ⟨hap, hk⟩ := h1
      refine ⟨hap, ?_⟩
      rcases hk with (hk | hk) | hk
      · exact .inl hk
      · exact .inr (.inl hk)
      · exact .inr (.inr hk)
  · rw [hr0]; simp [hlen]
  · rw [hr0]; exact hw
end
end Go.Proofs.YtjimcjhgjfhbiaaGreat
/- Small lemmas that the walks share: new blocks, what a row of the call's own holds, ends of calls. -/
namespace Go.Proofs.YtjimcjhgjfhbiaaGreat
open Go Go.RowKit

theorem ret_int {k : IntKind} {a b : Int} (h : a = b) : Ending.returned (.int k a) = .returned (.int k b) := by rw [h]
theorem ret_bool {a b : Bool} (h : a = b) : Ending.returned (.bool a) = .returned (.bool b) := by rw [h]
theorem below_drewN {B : Nat} {a w : World} (h : Below B a w) (n : Nat) : Below B a (w.drewN n) :=
  h.trans ⟨rfl, rfl, rfl, Nat.le_refl _, fun _ _ => rfl⟩
theorem below_later {w w1 w2 : World} {B : Nat} (h : Below B w w1) (hB : B ≤ w1.heap.size) (h2 : Below w1.heap.size w1 w2) : Below B w w2 := h.trans (h2.mono hB)

theorem heap_new (w : World) (o : Obj) (n : Nat) (hn : w.heap.size = n) : (w.alloc o).heap[n]? = some o := by
  subst hn; exact heap_alloc_new w o
/-- What lies in a new block of cells. -/
theorem cells_new (w : World) (cs : List Value) (t : TypeId) (n : Nat) (hn : w.heap.size = n) : ∀ j u, cs[j]? = some u → (w.alloc (.cells cs.toArray t)).cell? ((⟨n, 0, none⟩ : Addr).add j) = some u :=
  fun j u hu => World.news_of_block (cs := cs.toArray) (t := t) (fr := (0, 0)) (heap_new w _ n hn) j u (by simpa using hu)
/-- A cell of a block that was laid just ahead of a call. -/
theorem cell_kept {w w' : World} {cs : Array Value} {t : TypeId} (h : Below (w.alloc (.cells cs t)).heap.size (w.alloc (.cells cs t)) w') (j : Nat) (v : Value) (hv : cs[j]? = some v) : w'.cell? ⟨w.heap.size, j, none⟩ = some v := by
  rw [h.cell (p := ⟨w.heap.size, j, none⟩) (by simp), cell_of_row _ w.heap.size j cs t (0, 0) (heap_new w _ _ rfl)]
  exact hv
theorem below_alloc' {a w w' : World} {o : Obj} (h0 : Below a.heap.size a w) (h : Below (w.alloc o).heap.size (w.alloc o) w') : Below a.heap.size a w' :=
  (h0.alloc h0.size o).trans (h.mono (by have := h0.size; simp; omega))
/-- What an append leaves below the call's own blocks. -/
theorem below_append {w a w1 : World} {B : Nat} {e : TypeId} {size n : Nat} {v : Value} {xs : List Value} (h : Below B w a) (hown : a.ownsRow B e size v n xs) (hB : B ≤ a.heap.size) (hg : a.grownBy w1 v.ownBlock) : Below B w w1 :=
  h.grown hg hB fun k hk => (hown.lt k hk).1
/-- A value that owns something, written out; its cells. -/
theorem own_form {w : World} {base : Nat} {e : TypeId} {size : Nat} {v : Value} {n : Nat} {xs : List Value} (h : w.ownsRow base e size v n xs) :
    ∃ ao c, v = .slice ao n c ∧ n ≤ c ∧ (0 < n → ∃ g, ao = some ⟨g, 0, none⟩ ∧ base ≤ g ∧ g < w.heap.size ∧ ∀ j u, xs[j]? = some u → w.cell? ⟨g, j, none⟩ = some u) := by
  rcases h.2 with ⟨rfl, rfl⟩ | ⟨g, cap, cur, hv, hb, hg, hn, _⟩
  · exact ⟨none, 0, rfl, Nat.le_refl _, fun h => absurd h (by omega)⟩
  · refine ⟨some ⟨g, 0, none⟩, cap, hv, hn, fun _ => ⟨g, rfl, hb, ?_, fun j u hu => ?_⟩⟩
    · rcases Nat.lt_or_ge g w.heap.size with hlt | hge
      · exact hlt
      · rw [Array.getElem?_eq_none hge] at hg; cases hg
    · have := h.cells (g := g) (by rw [hv]; rfl) j u hu
      have hadd : (⟨g, 0, none⟩ : Addr).add j = ⟨g, j, none⟩ := by unfold Addr.add; split <;> simp_all
      rwa [hadd] at this
theorem i64_and_mask (z : Int) (p : Nat) (hp : p ≤ 62) (m : Int) (hm : m = 2 ^ p - 1) : bits .and .i64 z m = z % 2 ^ p := by
  subst hm
  have hpp : (2 : Nat) ^ p ≤ 2 ^ 62 := Nat.pow_le_pow_right (by omega) hp
  have hpos : 0 < (2 : Nat) ^ p := Nat.pow_pos (by omega)
  have hcast : ((2 : Int) ^ p - 1) = ((2 ^ p - 1 : Nat) : Int) := by
    rw [Int.natCast_sub (by omega)]; simp
  have hd : (2 : Int) ^ p ∣ 2 ^ 64 := by
    refine ⟨2 ^ (64 - p), ?_⟩
    rw [← Int.pow_add]; congr 1; omega
  unfold bits
  simp only []
  have h1 : (BitVec.ofInt 64 z &&& BitVec.ofInt 64 (2 ^ p - 1)).toNat = (BitVec.ofInt 64 z).toNat % 2 ^ p := by
    rw [hcast, BitVec.ofInt_natCast, BitVec.toNat_and, BitVec.toNat_ofNat, Nat.mod_eq_of_lt (a := 2 ^ p - 1) (by omega), Nat.and_two_pow_sub_one_eq_mod]
  show IntKind.i64.wrap ((BitVec.ofInt 64 z &&& BitVec.ofInt 64 (2 ^ p - 1)).toNat : Int) = _
  rw [h1, BitVec.toNat_ofInt]
  have h2 : (((z % ((2 ^ 64 : Nat) : Int)).toNat % 2 ^ p : Nat) : Int) = z % 2 ^ p := by
    rw [Int.natCast_emod, Int.toNat_of_nonneg (Int.emod_nonneg _ (by decide))]
    have : (((2 : Nat) ^ p : Nat) : Int) = (2 : Int) ^ p := by simp
    rw [this]
    exact Int.emod_emod_of_dvd z (by simpa using hd)
  rw [h2]
  have h3 : 0 ≤ z % (2 : Int) ^ p := Int.emod_nonneg _ (by have : (0 : Int) < 2 ^ p := Int.pow_pos (by omega); omega)
  have h4 : z % (2 : Int) ^ p < 2 ^ p := Int.emod_lt_of_pos _ (Int.pow_pos (by omega))
  have h5 : (2 : Int) ^ p ≤ 4611686018427387904 := by
    have : (((2 : Nat) ^ p : Nat) : Int) ≤ ((2 ^ 62 : Nat) : Int) := by exact_mod_cast hpp
    simpa using this
  exact IntWalk.i64_in _ (by omega)
end Go.Proofs.YtjimcjhgjfhbiaaGreat
/- Small lemmas that walks share: what a call has turned; rows of the call's own. -/
namespace Go.Proofs.YtjimcjhgjfhbiaaGreat
open Go.RowKit Go.Lib

/-- Nothing has turned but what lies in the blocks of S, and what is new. -/
def Turn (S : Nat → Prop) (w w' : World) : Prop := w'.os = w.os ∧ w'.tape = w.tape ∧ w'.output = w.output ∧ w.heap.size ≤ w'.heap.size ∧ ∀ k, k < w.heap.size → ¬ S k → w'.heap[k]? = w.heap[k]?
theorem Turn.refl (S : Nat → Prop) (w : World) : Turn S w w := ⟨rfl, rfl, rfl, Nat.le_refl _, fun _ _ _ => rfl⟩
theorem Turn.of_below {S : Nat → Prop} {w w' : World} (h : Below w.heap.size w w') : Turn S w w' := ⟨h.os, h.tape, h.output, h.size, fun k hk _ => h.block k hk⟩
theorem Turn.trans {S T : Nat → Prop} {w w1 w2 : World} (h : Turn S w w1) (h2 : Turn T w1 w2) (hT : ∀ k, k < w.heap.size → T k → S k) : Turn S w w2 :=
  ⟨h2.1.trans h.1, h2.2.1.trans h.2.1, h2.2.2.1.trans h.2.2.1, Nat.le_trans h.2.2.2.1 h2.2.2.2.1, fun k hk hs => (h2.2.2.2.2 k (Nat.lt_of_lt_of_le hk h.2.2.2.1) (fun ht => hs (hT k hk ht))).trans (h.2.2.2.2 k hk hs)⟩
theorem Turn.below {S : Nat → Prop} {w w' : World} {B : Nat} (h : Turn S w w') (hB : B ≤ w.heap.size) (hS : ∀ k, k < B → ¬ S k) : Below B w w' := ⟨h.1, h.2.1, h.2.2.1, h.2.2.2.1, fun k hk => h.2.2.2.2 k (Nat.lt_of_lt_of_le hk hB) (hS k hk)⟩
theorem Turn.drew {S : Nat → Prop} {w w' : World} (h : Turn S w w') : Turn S w w'.drew := ⟨h.1, h.2.1, h.2.2.1, h.2.2.2.1, h.2.2.2.2⟩
theorem Turn.setCell {S : Nat → Prop} {w w' : World} (h : Turn S w w') {a : Addr} (ha : S a.block) (u : Value) : Turn S w (w'.setCell a u) :=
  ⟨h.1, h.2.1, h.2.2.1, by simpa using h.2.2.2.1, fun k hk hs => (Below.heap_setCell _ _ _ _ (fun e => hs (by rw [e]; exact ha))).trans (h.2.2.2.2 k hk hs)⟩
theorem Turn.cell {S : Nat → Prop} {w w' : World} (h : Turn S w w') {p : Addr} (hp : p.block < w.heap.size) (hs : ¬ S p.block) : w'.cell? p = w.cell? p := World.cell?_of_block (h.2.2.2.2 _ hp hs)
theorem below_dn (w : World) (n : Nat) : Below w.heap.size w (w.drewN n) := ⟨rfl, rfl, rfl, Nat.le_refl _, fun _ _ => rfl⟩
theorem own_later {w w' : World} {base n size : Nat} {e : TypeId} {v : Value} {xs : List Value} (h : w.ownsRow base e size v n xs) (hb : Below w.heap.size w w') : w'.ownsRow base e size v n xs := by
  refine ⟨h.1, ?_⟩
  rcases h.2 with h1 | ⟨g, cap, cur, hv, hbg, hh, hx⟩
  · exact .inl h1
  · exact .inr ⟨g, cap, cur, hv, hbg, (hb.block g (Array.getElem?_eq_some_iff.1 hh).1).trans hh, hx⟩
theorem own_turn {S : Nat → Prop} {w w' : World} {base n c size : Nat} {e : TypeId} {vo : Option Addr} {xs : List Value} (h : w.ownsRow base e size (.slice vo n c) n xs) (ht : Turn S w w') (hs : ∀ g o s, vo = some ⟨g, o, s⟩ → ¬ S g) : w'.ownsRow base e size (.slice vo n c) n xs := by
  refine ⟨h.1, ?_⟩
  rcases h.2 with h1 | ⟨g, cap, cur, hv, hbg, hh, hx⟩
  · exact .inl h1
  · exact .inr ⟨g, cap, cur, hv, hbg, (ht.2.2.2.2 g (Array.getElem?_eq_some_iff.1 hh).1 (hs g 0 none (by cases hv; rfl))).trans hh, hx⟩
theorem own_set {w : World} {base n cap size g : Nat} {e : TypeId} {xs : List Value} (h : w.ownsRow base e size (.slice (some ⟨g, 0, none⟩) n cap) n xs) (j : Nat) (u : Value) :
    (w.setCell ⟨g, j, none⟩ u).ownsRow base e size (.slice (some ⟨g, 0, none⟩) n cap) n (xs.set j u) := by
  rcases h.2 with ⟨h0, _⟩ | ⟨g', cap', cur, hv, hb, hh, h1, h2, h3, h4⟩
  · cases h0
  · cases hv
    refine ⟨by simpa using h.1, .inr ⟨g, cap, cur.setIfInBounds j u, rfl, hb, ?_, h1, h2, by simpa using h3, ?_⟩⟩
    · rw [Sort.setCell_eq]
      simp [Sort.mapBlock, Array.getElem?_modify, hh, Sort.onCells]
    · rw [Array.toList_setIfInBounds, List.take_set, h4]
theorem own_drew {w : World} {base n size : Nat} {e : TypeId} {v : Value} {xs : List Value} (h : w.ownsRow base e size v n xs) : w.drew.ownsRow base e size v n xs := h
/-- The block of a row of the call's own. -/
theorem own_block {w : World} {base g n cap size : Nat} {e : TypeId} {xs : List Value} (h : w.ownsRow base e size (.slice (some ⟨g, 0, none⟩) n cap) n xs) :
    ∃ cur : Array Value, w.heap[g]? = some (.cells cur e (0, 0)) ∧ base ≤ g ∧ n ≤ cap ∧ cap ≤ maxLen ∧ cur.size = cap * size ∧ cur.toList.take (n * size) = xs := by
  rcases h.2 with ⟨hv, _⟩ | ⟨g', cap', cur, hv, hbg, hh, hnc, hcm, hcs, htake⟩
  · simp only [Value.slice.injEq] at hv; cases hv.1
  · simp only [Value.slice.injEq, Option.some.injEq, Addr.mk.injEq] at hv
    obtain ⟨⟨rfl, _⟩, _, rfl⟩ := hv
    exact ⟨cur, hh, hbg, hnc, hcm, hcs, htake⟩
/-- A row of the call's own, cut at its end. -/
theorem own_take {w : World} {base g n m cap size : Nat} {e : TypeId} {xs : List Value} (h : w.ownsRow base e size (.slice (some ⟨g, 0, none⟩) n cap) n xs) (hm : m ≤ n) :
    w.ownsRow base e size (.slice (some ⟨g, 0, none⟩) m cap) m (xs.take (m * size)) := by
  obtain ⟨cur, hh, hbg, hnc, hcm, hcs, htake⟩ := own_block h
  have hms : m * size ≤ n * size := Nat.mul_le_mul_right size hm
  refine ⟨by rw [List.length_take, h.1]; omega, .inr ⟨g, cap, cur, rfl, hbg, hh, by omega, hcm, hcs, ?_⟩⟩
  rw [← htake, List.take_take, Nat.min_eq_left hms]
theorem own_lt {w : World} {base n c size : Nat} {e : TypeId} {vo : Option Addr} {xs : List Value} (h : w.ownsRow base e size (.slice vo n c) n xs) : ∀ g o s, vo = some ⟨g, o, s⟩ → base ≤ g ∧ g < w.heap.size := fun g o s e => by
  rcases h.2 with ⟨hv, _⟩ | ⟨g', cap, cur, hv, hbg, hh, _⟩
  · simp only [Value.slice.injEq] at hv; rw [hv.1] at e; cases e
  · simp only [Value.slice.injEq] at hv; rw [hv.1] at e; cases e; exact ⟨hbg, (Array.getElem?_eq_some_iff.1 hh).1⟩
theorem own_base {w : World} {base b2 n size : Nat} {e : TypeId} {v : Value} {xs : List Value} (h : w.ownsRow base e size v n xs) (hb : b2 ≤ base) : w.ownsRow b2 e size v n xs :=
  ⟨h.1, h.2.imp (fun h => h) fun ⟨g, cap, cur, hv, hbg, r⟩ => ⟨g, cap, cur, hv, by omega, r⟩⟩
theorem wrap_in {x : Int} (h1 : -9223372036854775808 ≤ x) (h2 : x ≤ 9223372036854775807) : IntKind.i64.wrap x = x := IntWalk.i64_in _ (by omega)
end Go.Proofs.YtjimcjhgjfhbiaaGreat
/- A row of pointers to structs in a field of a struct (cache.row in Cache), least used first: what lies in memory; contracts of Len, Less, Swap. -/
namespace Go.Proofs.YtjimcjhgjfhbiaaGreat
open Go.RowKit Go.Lib

/-- One of a row: its block, when it was last used. -/
abbrev KE := Nat × Int
def kG (L : List KE) (k : Nat) : KE := L.getD k (0, 0)
def kP (q : KE) : Value := .pointer (some ⟨q.1, 0, none⟩)
def kV (L : List KE) : List Value := L.map kP
theorem kV_length (L : List KE) : (kV L).length = L.length := List.length_map ..
theorem kV_append (a b : List KE) : kV (a ++ b) = kV a ++ kV b := List.map_append ..
theorem kV_snoc (L : List KE) (x : KE) : kV (L ++ [x]) = kV L ++ [kP x] := kV_append L [x]
theorem kV_get {L : List KE} {k : Nat} (h : k < L.length) : (kV L)[k]? = some (kP (kG L k)) := by
  unfold kV kG
  rw [List.getElem?_map, List.getElem?_eq_getElem h, List.getD_eq_getElem?_getD, List.getElem?_eq_getElem h]; rfl
theorem kV_set (L : List KE) (i : Nat) (p : KE) : kV (L.set i p) = (kV L).set i (kP p) := List.map_set ..
theorem kG_mem {L : List KE} {i : Nat} (h : i < L.length) : kG L i ∈ L := by
  unfold kG; rw [List.getD_eq_getElem?_getD, List.getElem?_eq_getElem h, Option.getD_some]; exact List.getElem_mem h
/-- What is known of one of a row. -/
def UsedAt (w : World) (r : Nat) (vo : Option Addr) (q : KE) : Prop := w.cell? ⟨q.1, 5, none⟩ = some (.int .i64 q.2) ∧ q.1 ≠ r ∧ ∀ g o s, vo = some ⟨g, o, s⟩ → g ≠ q.1
/-- In w, cell ro of block r is a row: its slice has address vo and room c, its cells lie in a block from B on; it holds L. -/
def RowK (w : World) (B r ro : Nat) (vo : Option Addr) (c : Nat) (L : List KE) : Prop :=
  w.cell? ⟨r, ro, none⟩ = some (.slice vo L.length c) ∧ w.frozen? ⟨r, ro, none⟩ = false ∧ w.ownsRow B 64 1 (.slice vo L.length c) L.length (kV L) ∧ (∀ g o s, vo = some ⟨g, o, s⟩ → g ≠ r) ∧ L.length ≤ 1000000 ∧ ∀ q ∈ L, UsedAt w r vo q
theorem RowK.lt {w : World} {B r ro c : Nat} {vo : Option Addr} {L : List KE} (h : RowK w B r ro vo c L) : r < w.heap.size := World.block_lt_of_cell? w _ h.1
theorem RowK.len {w : World} {B r ro c : Nat} {vo : Option Addr} {L : List KE} (h : RowK w B r ro vo c L) : L.length ≤ 1000000 := h.2.2.2.2.1
theorem RowK.used {w : World} {B r ro c : Nat} {vo : Option Addr} {L : List KE} (h : RowK w B r ro vo c L) : ∀ q ∈ L, UsedAt w r vo q := h.2.2.2.2.2
theorem RowK.head {w : World} {B r ro c n : Nat} {vo : Option Addr} {L : List KE} (h : RowK w B r ro vo c L) (hn : L.length = n) : w.cell? ⟨r, ro, none⟩ = some (.slice vo n c) := by rw [← hn]; exact h.1
theorem RowK.cells {w : World} {B r ro c : Nat} {vo : Option Addr} {L : List KE} (h : RowK w B r ro vo c L) (h0 : 0 < L.length) :
    ∃ g, vo = some ⟨g, 0, none⟩ ∧ g < w.heap.size ∧ g ≠ r ∧ (∀ j, w.frozen? ⟨g, j, none⟩ = false) ∧ ∀ i, i < L.length → w.cell? ⟨g, i, none⟩ = some (kP (kG L i)) := by
  have ho := h.2.2.1
  rcases ho.2 with ⟨_, h1⟩ | ⟨g, cap, cur, hv, _, hh, _⟩
  · omega
  · cases hv
    refine ⟨g, rfl, (Array.getElem?_eq_some_iff.1 hh).1, h.2.2.2.1 _ _ _ rfl, fun j => by simp [World.frozen?, hh], fun i hi => ?_⟩
    exact (ho.cellAt i (by omega)).trans (kV_get hi)
/-- What a row's calls may write: its slice's cell, its slice's row. -/
def FootK (r : Nat) (vo : Option Addr) : Nat → Prop := fun k => k = r ∨ ∃ o s, vo = some ⟨k, o, s⟩
def TK (r ro : Nat) (vo : Option Addr) (w w' : World) : Prop := Turn (FootK r vo) w w' ∧ (∀ j, j ≠ ro → w'.cell? ⟨r, j, none⟩ = w.cell? ⟨r, j, none⟩) ∧ ∀ j, w'.frozen? ⟨r, j, none⟩ = w.frozen? ⟨r, j, none⟩
theorem TK.refl (r ro : Nat) (vo : Option Addr) (w : World) : TK r ro vo w w := ⟨Turn.refl _ _, fun _ _ => rfl, fun _ => rfl⟩
theorem TK.trans {r ro : Nat} {vo vo' : Option Addr} {w w1 w2 : World} (h : TK r ro vo w w1) (h2 : TK r ro vo' w1 w2) (hG : ∀ k, k < w.heap.size → FootK r vo' k → FootK r vo k) : TK r ro vo w w2 :=
  ⟨h.1.trans h2.1 hG, fun j hj => (h2.2.1 j hj).trans (h.2.1 j hj), fun j => (h2.2.2 j).trans (h.2.2 j)⟩
theorem TK.below {r ro : Nat} {vo : Option Addr} {w w1 w2 : World} (h : TK r ro vo w w1) (hr : r < w1.heap.size) (hb : Below w1.heap.size w1 w2) : TK r ro vo w w2 :=
  ⟨h.1.trans (T := fun _ => False) (Turn.of_below hb) fun _ _ h => h.elim, fun j hj => (World.cell?_of_block (a := ⟨r, j, none⟩) (hb.block r hr)).trans (h.2.1 j hj), fun j => (World.frozen?_of_block (a := ⟨r, j, none⟩) (hb.block r hr)).trans (h.2.2 j)⟩
theorem RowK.kept {S : Nat → Prop} {w w' : World} {B r ro c : Nat} {vo : Option Addr} {L : List KE} (h : RowK w B r ro vo c L) (ht : Turn S w w') (hS : ∀ k, FootK r vo k → ¬ S k) (hQ : ∀ q ∈ L, ¬ S q.1) : RowK w' B r ro vo c L := by
  have e : w'.heap[r]? = w.heap[r]? := ht.2.2.2.2 r h.lt (hS r (.inl rfl))
  exact ⟨(World.cell?_of_block (a := ⟨r, ro, none⟩) e).trans h.1, (World.frozen?_of_block (a := ⟨r, ro, none⟩) e).trans h.2.1, own_turn h.2.2.1 ht fun g o s e => hS g (.inr ⟨o, s, e⟩), h.2.2.2.1, h.len, fun q hq =>
    ⟨(World.cell?_of_block (a := ⟨q.1, 5, none⟩) (ht.2.2.2.2 q.1 (World.block_lt_of_cell? w _ (h.used q hq).1) (hQ q hq))).trans (h.used q hq).1, (h.used q hq).2⟩⟩
theorem RowK.below {w w' : World} {B r ro c : Nat} {vo : Option Addr} {L : List KE} (h : RowK w B r ro vo c L) (hb : Below w.heap.size w w') : RowK w' B r ro vo c L := h.kept (S := fun _ => False) (Turn.of_below hb) (fun _ _ h => h) fun _ _ h => h
/-- Least lately used first. -/
def lessK (a b : KE) : Bool := decide (a.2 < b.2)
theorem klen_any (vo : Option Addr) (n c : Nat) (w : World) : Calls Tryz.prog 159 #[.slice vo n c] w fun e w' => e = .returned (.int .i64 n) ∧ w = w' := by
  go_enter Tryz.func159, Tryz.ntmps159
  go_wp2
  go_ret
  exact ⟨rfl, rfl⟩
set_option maxRecDepth 100000 in
set_option maxHeartbeats 1000000 in
theorem kless_any {w : World} {g c n i k : Nat} {a b : KE} (hi : i < n) (hk : k < n) (ha : w.cell? ⟨g, i, none⟩ = some (kP a)) (ua : w.cell? ⟨a.1, 5, none⟩ = some (.int .i64 a.2)) (hb : w.cell? ⟨g, k, none⟩ = some (kP b)) (ub : w.cell? ⟨b.1, 5, none⟩ = some (.int .i64 b.2)) :
    Calls Tryz.prog 160 #[.slice (some ⟨g, 0, none⟩) n c, .int .i64 i, .int .i64 k] w fun e w' => e = .returned (.bool (lessK a b)) ∧ Below w.heap.size w w' := by
  obtain ⟨a1, a2⟩ := a
  obtain ⟨b1, b2⟩ := b
  unfold kP at ha hb
  have HL : Hid (lessK (a1, a2) (b1, b2) = decide (a2 < b2)) := rfl
  go_enter Tryz.func160, Tryz.ntmps160
  go_wp2_with (first | (with_reducible refine wp_region_lex (by kernel_rfl) (by kernel_rfl) ?_) | (with_reducible refine OnlyG.intro (by kernel_rfl) ?_))
  go_ret
  exact ⟨by rw [HL.out]; rfl, (Below.refl _ w).drew⟩
def swapK (L : List KE) (i k : Nat) : List KE := (L.set i (kG L k)).set k (kG L i)
theorem swapK_length (L : List KE) (i k : Nat) : (swapK L i k).length = L.length := by simp [swapK]
theorem kG_set {L : List KE} {i : Nat} (hi : i < L.length) (p : KE) (j : Nat) : kG (L.set i p) j = if j = i then p else kG L j := by
  unfold kG
  rw [List.getD_eq_getElem?_getD, List.getElem?_set, List.getD_eq_getElem?_getD]
  by_cases e : i = j
  · subst e; simp [hi]
  · rw [if_neg e, if_neg (fun h => e h.symm)]
theorem kG_swap {L : List KE} {i k : Nat} (hi : i < L.length) (hk : k < L.length) (j : Nat) : kG (swapK L i k) j = if j = k then kG L i else if j = i then kG L k else kG L j := by
  unfold swapK
  rw [kG_set (by simpa using hk), kG_set hi]
theorem kG_of_mem {L : List KE} {p : KE} (h : p ∈ L) : ∃ i, i < L.length ∧ kG L i = p := by
  obtain ⟨i, hi, rfl⟩ := List.getElem_of_mem h
  exact ⟨i, hi, by unfold kG; rw [List.getD_eq_getElem?_getD, List.getElem?_eq_getElem hi, Option.getD_some]⟩
theorem swapK_mem {L : List KE} {i k : Nat} (hi : i < L.length) (hk : k < L.length) {v : KE} (h : v ∈ swapK L i k) : v ∈ L := by
  obtain ⟨j, hj, rfl⟩ := kG_of_mem h
  rw [swapK_length] at hj
  rw [kG_swap hi hk]
  split
  · exact kG_mem hi
  · split
    · exact kG_mem hk
    · exact kG_mem hj
def W2K (w : World) (g i k : Nat) (x y : KE) : World := (w.setCell ⟨g, i, none⟩ (kP y)).setCell ⟨g, k, none⟩ (kP x)
theorem turn_w2K {S : Nat → Prop} {w : World} {g i k : Nat} {x y : KE} (hg : S g) : Turn S w (W2K w g i k x y) := ((Turn.refl S w).setCell hg _).setCell hg _
theorem heap_w2K {w : World} {g i k b : Nat} {x y : KE} (hp : b ≠ g) : (W2K w g i k x y).heap[b]? = w.heap[b]? :=
  (Below.heap_setCell _ _ _ _ hp).trans (Below.heap_setCell _ _ _ _ hp)
theorem tk_foot {r ro : Nat} {vo : Option Addr} {w w' : World} (ht : Turn (FootK r vo) w w') (e : w'.heap[r]? = w.heap[r]?) : TK r ro vo w w' :=
  ⟨ht, fun j _ => World.cell?_of_block (a := ⟨r, j, none⟩) e, fun j => World.frozen?_of_block (a := ⟨r, j, none⟩) e⟩
theorem rlessK_any {w : World} {B r ro c n : Nat} {vo : Option Addr} {L : List KE} (h : RowK w B r ro vo c L) (hn : L.length = n) {i k : Nat} (hi : i < n) (hk : k < n) :
    Calls Tryz.prog 160 #[.slice vo n c, .int .i64 i, .int .i64 k] w fun e w' => e = .returned (.bool (lessK (kG L i) (kG L k))) ∧ Below w.heap.size w w' := by
  subst hn
  obtain ⟨g, rfl, hg, hgr, hf, hc⟩ := h.cells (by omega)
  exact kless_any hi hk (hc i hi) (h.used _ (kG_mem hi)).1 (hc k hk) (h.used _ (kG_mem hk)).1
set_option maxRecDepth 100000 in
set_option maxHeartbeats 1000000 in
theorem kswap_any {w : World} {g c n i k : Nat} {x y : KE} (hi : i < n) (hk : k < n) (hf : ∀ j, w.frozen? ⟨g, j, none⟩ = false) (ha : w.cell? ⟨g, i, none⟩ = some (kP x)) (hb : w.cell? ⟨g, k, none⟩ = some (kP y)) :
    Calls Tryz.prog 161 #[.slice (some ⟨g, 0, none⟩) n c, .int .i64 i, .int .i64 k] w fun e w' => e = .returned (.tuple #[]) ∧ w' = (W2K w g i k x y).drew := by
  have fi := hf i
  have fk := hf k
  obtain ⟨z, hz⟩ : ∃ z, (w.setCell ⟨g, i, none⟩ (kP y)).cell? ⟨g, k, none⟩ = some z := by
    by_cases e : k = i
    · subst e; exact ⟨_, World.cell?_setCell_same _ _ _ ha⟩
    · exact ⟨_, (World.cell?_setCell_other _ _ _ _ (fun h2 => e (by cases h2; rfl))).trans hb⟩
  unfold W2K
  unfold kP at *
  clear hf
  go_enter Tryz.func161, Tryz.ntmps161
  go_wp2_with fail
  go_region
  all_goals
    go_end0
    exact ⟨rfl, rfl⟩
theorem rswapK_any {w : World} {B r ro c n : Nat} {vo : Option Addr} {L : List KE} (h : RowK w B r ro vo c L) (hn : L.length = n) {i k : Nat} (hi : i < n) (hk : k < n) :
    Calls Tryz.prog 161 #[.slice vo n c, .int .i64 i, .int .i64 k] w fun e w' => e = .returned (.tuple #[]) ∧ RowK w' B r ro vo c (swapK L i k) ∧ TK r ro vo w w' := by
  subst hn
  obtain ⟨g, rfl, hg, hgr, hf, hc⟩ := h.cells (by omega)
  refine (kswap_any hi hk hf (hc i hi) (hc k hk)).mono ?_
  rintro e w' ⟨rfl, rfl⟩
  have hT : Turn (FootK r (some ⟨g, 0, none⟩)) w (W2K w g i k (kG L i) (kG L k)).drew := (turn_w2K (.inr ⟨0, none, rfl⟩)).drew
  have er : (W2K w g i k (kG L i) (kG L k)).drew.heap[r]? = w.heap[r]? := heap_w2K fun e => hgr e.symm
  refine ⟨rfl, ⟨?_, (World.frozen?_of_block (a := ⟨r, ro, none⟩) er).trans h.2.1, ?_, h.2.2.2.1, by rw [swapK_length]; exact h.len, fun q hq => ?_⟩, tk_foot hT er⟩
  · rw [swapK_length]; exact (World.cell?_of_block (a := ⟨r, ro, none⟩) er).trans h.1
  · rw [swapK_length]
    unfold swapK W2K
    rw [kV_set, kV_set]
    exact own_drew (own_set (own_set h.2.2.1 _ _) _ _)
  · have hu := h.used q (swapK_mem hi hk hq)
    exact ⟨(World.cell?_of_block (a := ⟨q.1, 5, none⟩) (heap_w2K (Ne.symm (hu.2.2 _ _ _ rfl)))).trans hu.1, hu.2⟩
end Go.Proofs.YtjimcjhgjfhbiaaGreat
/- Contracts of container/heap's up and down at a row of pointers to structs. -/
namespace Go.Proofs.YtjimcjhgjfhbiaaGreat
open Go.RowKit Go.Lib

theorem wrap_chkK {P : Program} {w : World} (xt : TypeId) (a : Addr) (s1 s2 : ByteArray) : (Builtin.ssaWrapNilChk_ #[xt] xt #[.pointer (some a), .string s1, .string s2]).run P w = .ok (.pointer (some a)) w := rfl
/-- A method of a value, called through a pointer in an interface: the value is loaded. -/
theorem method_derefK {P : Program} {w : World} {fuel t row f : Nat} {name : String} {v : Value} {e : TypeId} {a : Addr} (hh : ((P.info? t).bind fun i => (i.methods.find? (·.name == name)).map fun m => (m.path.size, m.func)) = some (0, some (f, false)))
    (hu : P.underlying t = some (.pointer row)) (hr : P.underlying row = some (.slice e)) (hc : w.cell? a = some v) : (method (fuel + 1) t (.pointer (some a)) name).run P w = .ok (f, v) w := by
  obtain ⟨i, hi, hh⟩ := Option.bind_eq_some_iff.1 hh
  obtain ⟨m, hm, hh⟩ := Option.map_eq_some_iff.1 hh
  have hp : m.path = #[] := Array.eq_empty_of_size_eq_zero (congrArg Prod.fst hh)
  have hf : m.func = some (f, false) := congrArg Prod.snd hh
  unfold method
  simp only [Sem.run_bind, run_typeInfo w hi, Result.andThen_ok, hm, hp, hf, follow, List.toList_toArray, Sem.run_pure, receiverAt, run_underlying hu, Place.get, strVal, Array.isEmpty_empty, if_true, wrap_chkK]
  simp [go_sem, asAddr, loadVar, isAgg, run_underlying hr, hc]
theorem methK_len {w : World} {r ro n c : Nat} {vo : Option Addr} (h : w.cell? ⟨r, ro, none⟩ = some (.slice vo n c)) : (method 310 67 (.pointer (some ⟨r, ro, none⟩)) "Len").run Tryz.prog w = .ok (159, .slice vo n c) w :=
  method_derefK (by kernel_rfl) Tryz.underlying67 Tryz.underlying55 h
theorem methK_less {w : World} {r ro n c : Nat} {vo : Option Addr} (h : w.cell? ⟨r, ro, none⟩ = some (.slice vo n c)) : (method 310 67 (.pointer (some ⟨r, ro, none⟩)) "Less").run Tryz.prog w = .ok (160, .slice vo n c) w :=
  method_derefK (by kernel_rfl) Tryz.underlying67 Tryz.underlying55 h
theorem methK_swap {w : World} {r ro n c : Nat} {vo : Option Addr} (h : w.cell? ⟨r, ro, none⟩ = some (.slice vo n c)) : (method 310 67 (.pointer (some ⟨r, ro, none⟩)) "Swap").run Tryz.prog w = .ok (161, .slice vo n c) w :=
  method_derefK (by kernel_rfl) Tryz.underlying67 Tryz.underlying55 h
def ifcK (r ro : Nat) : Value := .iface 67 (.pointer (some ⟨r, ro, none⟩))
def upFK (L : List KE) (j : Nat) : List KE :=
  if j = 0 then L else if lessK (kG L j) (kG L ((j - 1) / 2)) then upFK (swapK L ((j - 1) / 2) j) ((j - 1) / 2) else L
termination_by j
decreasing_by omega
theorem upFK_zero (L : List KE) : upFK L 0 = L := by rw [upFK, if_pos rfl]
theorem upFK_step {L : List KE} {j i : Nat} (hj : 0 < j) (hi : (j - 1) / 2 = i) (h : lessK (kG L j) (kG L i) = true) : upFK L j = upFK (swapK L i j) i := by
  rw [upFK, if_neg (by omega), hi, h, if_pos rfl]
theorem upFK_stop {L : List KE} {j i : Nat} (hi : (j - 1) / 2 = i) (h : lessK (kG L j) (kG L i) = false) : upFK L j = L := by
  rw [upFK]
  split
  · rfl
  · rw [hi, h]; rfl
set_option maxRecDepth 100000 in
set_option maxHeartbeats 1000000 in
theorem upK_any {w : World} {B r ro c : Nat} {vo : Option Addr} {L : List KE} (h : RowK w B r ro vo c L) {j0 : Nat} (hj0 : j0 < L.length) :
    Calls Tryz.prog 49 #[ifcK r ro, .int .i64 j0] w fun e w' => e = .returned (.tuple #[]) ∧ RowK w' B r ro vo c (upFK L j0) ∧ TK r ro vo w w' := by
  have hlen := h.len
  have HR := Lib.hid h
  obtain ⟨n, hn⟩ : ∃ n, L.length = n := ⟨_, rfl⟩
  have HN := Lib.hid hn
  rw [hn] at hj0 hlen
  clear h hn
  unfold ifcK
  go_enter Tryz.func49, Tryz.ntmps49
  go_wp2
  go_loopw [1] (fun jv wr => ∃ (j : Nat) (M : List KE), j < n ∧ jv = .int .i64 j ∧ Hid (M.length = n ∧ upFK M j = upFK L j0 ∧ RowK wr B r ro vo c M ∧ TK r ro vo w wr)) (fun jv _ => (intOf jv).toNat)
  case atStart => exact ⟨j0, L, hj0, rfl, HN.out, rfl, HR.out, TK.refl _ _ _ _⟩
  case round =>
    obtain ⟨j, M, hj, rfl, HM⟩ := hrel
    by_cases hz : j = 0
    · subst hz
      have HT : Hid (RowK wr B r ro vo c (upFK L j0) ∧ TK r ro vo w wr) := ⟨by rw [← HM.out.2.1, upFK_zero]; exact HM.out.2.2.1, HM.out.2.2.2⟩
      clear HM
      go_wp2_with fail
      go_end0
      exact ⟨rfl, HT.out⟩
    · obtain ⟨i, hi⟩ : ∃ i, (j - 1) / 2 = i := ⟨_, rfl⟩
      have hij : i < j := by omega
      have hiI : ((j : Int) - 1).tdiv 2 = (i : Int) := by rw [Int.tdiv_eq_ediv_of_nonneg (by omega)]; omega
      have HL := Lib.hid (rlessK_any HM.out.2.2.1 HM.out.1 (i := j) (k := i) (by omega) (by omega))
      have mth1 := methK_less (HM.out.2.2.1.head HM.out.1)
      obtain ⟨o, ho⟩ : ∃ o, lessK (kG M j) (kG M i) = o := ⟨_, rfl⟩
      rw [ho] at HL
      have HO := Lib.hid ho
      have HI := Lib.hid hi
      have qij : ((i : Int) == (j : Int)) = false := by simp; omega
      clear ho hi
      go_wp2_with fail
      refine HL.out.mono ?_
      rintro e w1 ⟨rfl, hb⟩
      have HR1 : Hid (RowK w1 B r ro vo c M ∧ TK r ro vo w w1) := ⟨HM.out.2.2.1.below hb, HM.out.2.2.2.below HM.out.2.2.1.lt hb⟩
      clear hb
      cases o with
      | false =>
        have HT : Hid (RowK w1 B r ro vo c (upFK L j0) ∧ TK r ro vo w w1) := ⟨by rw [← HM.out.2.1, upFK_stop HI.out HO.out]; exact HR1.out.1, HR1.out.2⟩
        clear HM HR1
        go_wp2_with fail
        go_end0
        exact ⟨rfl, HT.out⟩
      | true =>
        have HS := Lib.hid (rswapK_any HR1.out.1 HM.out.1 (i := i) (k := j) (by omega) (by omega))
        have mth2 := methK_swap (HR1.out.1.head HM.out.1)
        go_wp2_with fail
        refine HS.out.mono ?_
        rintro e w2 ⟨rfl, hr2, ht2⟩
        have HN2 : Hid ((swapK M i j).length = n ∧ upFK (swapK M i j) i = upFK L j0 ∧ RowK w2 B r ro vo c (swapK M i j) ∧ TK r ro vo w w2) :=
          ⟨by rw [swapK_length]; exact HM.out.1, by rw [← HM.out.2.1, upFK_step (by omega) HI.out HO.out], hr2, HR1.out.2.trans ht2 fun _ _ h => h⟩
        clear hr2 ht2 HS HM HR1
        go_wp2
        go_roundw
        case rel => exact ⟨i, swapK M i j, by omega, rfl, HN2.out⟩
        case measure => simp [intOf]; omega
def childFK (L : List KE) (i n : Nat) : Nat := if 2 * i + 2 < n ∧ lessK (kG L (2 * i + 2)) (kG L (2 * i + 1)) = true then 2 * i + 2 else 2 * i + 1
theorem childFK_gt (L : List KE) (i n : Nat) : i < childFK L i n := by unfold childFK; split <;> omega
theorem childFK_lt {L : List KE} {i n : Nat} (h : 2 * i + 1 < n) : childFK L i n < n := by
  unfold childFK
  split
  · rename_i h2; exact h2.1
  · exact h
def downFK (L : List KE) (i n : Nat) : List KE × Nat :=
  if n ≤ 2 * i + 1 then (L, i) else if lessK (kG L (childFK L i n)) (kG L i) then downFK (swapK L i (childFK L i n)) (childFK L i n) n else (L, i)
termination_by n - i
decreasing_by have := childFK_gt L i n; omega
theorem downFK_end {L : List KE} {i n : Nat} (h : n ≤ 2 * i + 1) : downFK L i n = (L, i) := by rw [downFK, if_pos h]
theorem downFK_step {L : List KE} {i n j : Nat} (h : ¬ n ≤ 2 * i + 1) (hj : childFK L i n = j) (hl : lessK (kG L j) (kG L i) = true) : downFK L i n = downFK (swapK L i j) j n := by
  rw [downFK, if_neg h, hj, hl, if_pos rfl]
theorem downFK_stop {L : List KE} {i n j : Nat} (hj : childFK L i n = j) (hl : lessK (kG L j) (kG L i) = false) : downFK L i n = (L, i) := by
  rw [downFK]
  split
  · rfl
  · rw [hj, hl]; rfl
set_option maxRecDepth 100000 in
set_option maxHeartbeats 2000000 in
theorem downK_any {w : World} {B r ro c : Nat} {vo : Option Addr} {L : List KE} (h : RowK w B r ro vo c L) {i0 n : Nat} (hi0 : i0 < L.length) (hn : n ≤ L.length) :
    Calls Tryz.prog 50 #[ifcK r ro, .int .i64 i0, .int .i64 n] w fun e w' => e = .returned (.bool (decide (i0 < (downFK L i0 n).2))) ∧ RowK w' B r ro vo c (downFK L i0 n).1 ∧ TK r ro vo w w' := by
  have hlen := h.len
  have HR := Lib.hid h
  obtain ⟨N, hN⟩ : ∃ n, L.length = n := ⟨_, rfl⟩
  have HN := Lib.hid hN
  rw [hN] at hi0 hlen hn
  obtain ⟨D, hD⟩ : ∃ D, downFK L i0 n = D := ⟨_, rfl⟩
  rw [hD]
  have HD := Lib.hid hD
  clear h hN hD
  unfold ifcK
  go_enter Tryz.func50, Tryz.ntmps50
  go_wp2
  go_loopw [7] (fun iv wr => ∃ (i : Nat) (M : List KE), i < N ∧ iv = .int .i64 i ∧ Hid (M.length = N ∧ downFK M i n = D ∧ RowK wr B r ro vo c M ∧ TK r ro vo w wr)) (fun iv _ => N - (intOf iv).toNat)
  case atStart => exact ⟨i0, L, hi0, rfl, HN.out, HD.out, HR.out, TK.refl _ _ _ _⟩
  case round =>
    obtain ⟨i, M, hi, rfl, HM⟩ := hrel
    obtain ⟨j1, hj1, hj1n⟩ : ∃ j1 : Nat, 2 * (i : Int) + 1 = (j1 : Int) ∧ 2 * i + 1 = j1 := ⟨2 * i + 1, by omega, rfl⟩
    by_cases hz : n ≤ j1
    · have HT : Hid (D.2 = i ∧ RowK wr B r ro vo c D.1 ∧ TK r ro vo w wr) := by
        have e : D = (M, i) := by rw [← HM.out.2.1, downFK_end (by omega)]
        exact ⟨by rw [e], by rw [e]; exact HM.out.2.2.1, HM.out.2.2.2⟩
      have q1 : decide (n ≤ j1) = true := by simpa using hz
      clear HM
      go_wp2_with fail
      go_ret
      exact ⟨by rw [HT.out.1]; rfl, HT.out.2⟩
    · have q1 : decide (n ≤ j1) = false := by simpa using hz
      have q2 : decide ((j1 : Int) < 0) = false := by simp
      obtain ⟨j2, hj2, hj2n⟩ : ∃ j2 : Nat, (j1 : Int) + 1 = (j2 : Int) ∧ j1 + 1 = j2 := ⟨j1 + 1, by omega, rfl⟩
      have HJ1 := Lib.hid hj1n
      have HJ2 := Lib.hid hj2n
      have hij1 : i < j1 := by omega
      have hj12 : j1 < j2 := by omega
      have hj1N : j1 < N := by omega
      -- which child goes
      have key : (decide (j2 < n) = false ∧ Hid (childFK M i n = j1)) ∨ (j2 < n ∧ decide (j2 < n) = true ∧ ∃ o : Bool, Hid (childFK M i n = if o then j2 else j1) ∧ Hid (∀ wx, RowK wx B r ro vo c M → Calls Tryz.prog 160 #[.slice vo N c, .int .i64 j2, .int .i64 j1] wx fun e w' => e = .returned (.bool o) ∧ Below wx.heap.size wx w')) := by
        by_cases e : j2 < n
        · refine .inr ⟨e, by simpa using e, lessK (kG M j2) (kG M j1), ?_, fun wx hx => rlessK_any hx HM.out.1 (by omega) (by omega)⟩
          show _ = _
          unfold childFK
          rw [show 2 * i + 2 = j2 by omega, hj1n]
          by_cases e2 : lessK (kG M j2) (kG M j1) = true
          · rw [if_pos ⟨e, e2⟩, if_pos e2]
          · rw [if_neg (fun h => e2 h.2), if_neg e2]
        · refine .inl ⟨by simpa using e, ?_⟩
          show _ = _
          unfold childFK
          rw [if_neg (by omega), hj1n]
      clear hj1n hj2n
      rcases key with ⟨q3, HC⟩ | ⟨hj2N, q3, o, HC, HLL⟩
      · -- one child alone
        have HL := Lib.hid (rlessK_any HM.out.2.2.1 HM.out.1 (i := j1) (k := i) (by omega) (by omega))
        have mth3 := methK_less (HM.out.2.2.1.head HM.out.1)
        obtain ⟨p, hp⟩ : ∃ o, lessK (kG M j1) (kG M i) = o := ⟨_, rfl⟩
        rw [hp] at HL
        have HP := Lib.hid hp
        clear hp
        go_wp2_with fail
        refine HL.out.mono ?_
        rintro e w1 ⟨rfl, hb⟩
        have HR1 : Hid (RowK w1 B r ro vo c M ∧ TK r ro vo w w1) := ⟨HM.out.2.2.1.below hb, HM.out.2.2.2.below HM.out.2.2.1.lt hb⟩
        clear hb
        cases p with
        | false =>
          have HT : Hid (D.2 = i ∧ RowK w1 B r ro vo c D.1 ∧ TK r ro vo w w1) := by
            have e : D = (M, i) := by rw [← HM.out.2.1, downFK_stop HC.out HP.out]
            exact ⟨by rw [e], by rw [e]; exact HR1.out.1, HR1.out.2⟩
          clear HM HR1
          go_wp2_with fail
          go_ret
          exact ⟨by rw [HT.out.1]; rfl, HT.out.2⟩
        | true =>
          have HS := Lib.hid (rswapK_any HR1.out.1 HM.out.1 (i := i) (k := j1) (by omega) (by omega))
          have mth4 := methK_swap (HR1.out.1.head HM.out.1)
          go_wp2_with fail
          refine HS.out.mono ?_
          rintro e w2 ⟨rfl, hr2, ht2⟩
          have HN2 : Hid ((swapK M i j1).length = N ∧ downFK (swapK M i j1) j1 n = D ∧ RowK w2 B r ro vo c (swapK M i j1) ∧ TK r ro vo w w2) :=
            ⟨by rw [swapK_length]; exact HM.out.1, by rw [← HM.out.2.1, downFK_step (by rw [HJ1.out]; exact hz) HC.out HP.out], hr2, HR1.out.2.trans ht2 fun _ _ h => h⟩
          clear hr2 ht2 HS HM HR1 hj1 hj2
          go_wp2
          go_roundw
          case rel => exact ⟨j1, swapK M i j1, hj1N, rfl, HN2.out⟩
          case measure => simp [intOf]; omega
      · cases o
        all_goals
          simp only [Bool.false_eq_true, if_true, if_false] at HC
          have mth5 := methK_less (HM.out.2.2.1.head HM.out.1)
          go_wp2_with fail
          refine (HLL.out _ HM.out.2.2.1).mono ?_
          rintro e w0 ⟨rfl, hb⟩
          have HR0 : Hid (RowK w0 B r ro vo c M ∧ TK r ro vo w w0) := ⟨HM.out.2.2.1.below hb, HM.out.2.2.2.below HM.out.2.2.1.lt hb⟩
          clear hb HLL
        · have HL := Lib.hid (rlessK_any HR0.out.1 HM.out.1 (i := j1) (k := i) (by omega) (by omega))
          have mth6 := methK_less (HR0.out.1.head HM.out.1)
          obtain ⟨p, hp⟩ : ∃ o, lessK (kG M j1) (kG M i) = o := ⟨_, rfl⟩
          rw [hp] at HL
          have HP := Lib.hid hp
          clear hp
          go_wp2_with fail
          refine HL.out.mono ?_
          rintro e w1 ⟨rfl, hb⟩
          have HR1 : Hid (RowK w1 B r ro vo c M ∧ TK r ro vo w w1) := ⟨HR0.out.1.below hb, HR0.out.2.below HR0.out.1.lt hb⟩
          clear hb
          cases p with
          | false =>
            have HT : Hid (D.2 = i ∧ RowK w1 B r ro vo c D.1 ∧ TK r ro vo w w1) := by
              have e : D = (M, i) := by rw [← HM.out.2.1, downFK_stop HC.out HP.out]
              exact ⟨by rw [e], by rw [e]; exact HR1.out.1, HR1.out.2⟩
            clear HM HR1
            go_wp2_with fail
            go_ret
            exact ⟨by rw [HT.out.1]; rfl, HT.out.2⟩
          | true =>
            have HS := Lib.hid (rswapK_any HR1.out.1 HM.out.1 (i := i) (k := j1) (by omega) (by omega))
            have mth7 := methK_swap (HR1.out.1.head HM.out.1)
            go_wp2_with fail
            refine HS.out.mono ?_
            rintro e w2 ⟨rfl, hr2, ht2⟩
            have HN2 : Hid ((swapK M i j1).length = N ∧ downFK (swapK M i j1) j1 n = D ∧ RowK w2 B r ro vo c (swapK M i j1) ∧ TK r ro vo w w2) :=
              ⟨by rw [swapK_length]; exact HM.out.1, by rw [← HM.out.2.1, downFK_step (by rw [HJ1.out]; exact hz) HC.out HP.out], hr2, HR1.out.2.trans ht2 fun _ _ h => h⟩
            clear hr2 ht2 HS HM HR1 HR0 hj1 hj2
            go_wp2
            go_roundw
            case rel => exact ⟨j1, swapK M i j1, hj1N, rfl, HN2.out⟩
            case measure => simp [intOf]; omega
        · have HL := Lib.hid (rlessK_any HR0.out.1 HM.out.1 (i := j2) (k := i) (by omega) (by omega))
          have mth8 := methK_less (HR0.out.1.head HM.out.1)
          obtain ⟨p, hp⟩ : ∃ o, lessK (kG M j2) (kG M i) = o := ⟨_, rfl⟩
          rw [hp] at HL
          have HP := Lib.hid hp
          clear hp
          go_wp2_with fail
          refine HL.out.mono ?_
          rintro e w1 ⟨rfl, hb⟩
          have HR1 : Hid (RowK w1 B r ro vo c M ∧ TK r ro vo w w1) := ⟨HR0.out.1.below hb, HR0.out.2.below HR0.out.1.lt hb⟩
          clear hb
          cases p with
          | false =>
            have HT : Hid (D.2 = i ∧ RowK w1 B r ro vo c D.1 ∧ TK r ro vo w w1) := by
              have e : D = (M, i) := by rw [← HM.out.2.1, downFK_stop HC.out HP.out]
              exact ⟨by rw [e], by rw [e]; exact HR1.out.1, HR1.out.2⟩
            clear HM HR1
            go_wp2_with fail
            go_ret
            exact ⟨by rw [HT.out.1]; rfl, HT.out.2⟩
          | true =>
            have HS := Lib.hid (rswapK_any HR1.out.1 HM.out.1 (i := i) (k := j2) (by omega) (by omega))
            have mth9 := methK_swap (HR1.out.1.head HM.out.1)
            have hj2N2 : j2 < N := by omega
            go_wp2_with fail
            refine HS.out.mono ?_
            rintro e w2 ⟨rfl, hr2, ht2⟩
            have HN2 : Hid ((swapK M i j2).length = N ∧ downFK (swapK M i j2) j2 n = D ∧ RowK w2 B r ro vo c (swapK M i j2) ∧ TK r ro vo w w2) :=
              ⟨by rw [swapK_length]; exact HM.out.1, by rw [← HM.out.2.1, downFK_step (by rw [HJ1.out]; exact hz) HC.out HP.out], hr2, HR1.out.2.trans ht2 fun _ _ h => h⟩
            clear hr2 ht2 HS HM HR1 HR0 hj1 hj2
            go_wp2
            go_roundw
            case rel => exact ⟨j2, swapK M i j2, hj2N2, rfl, HN2.out⟩
            case measure => simp [intOf]; omega
theorem set_permK {L : List KE} {i k : Nat} (hi : i < L.length) (hk : k < L.length) : (swapK L i k).Perm L := by
  refine List.perm_iff_count.2 fun a => ?_
  have e1 : kG L i = L[i] := by unfold kG; rw [List.getD_eq_getElem?_getD, List.getElem?_eq_getElem hi, Option.getD_some]
  have e2 : kG L k = L[k] := by unfold kG; rw [List.getD_eq_getElem?_getD, List.getElem?_eq_getElem hk, Option.getD_some]
  unfold swapK
  rw [List.count_set (by simpa using hk), List.count_set hi, e1, e2]
  have p1 : (if L[i] == a then 1 else 0) ≤ L.count a := by
    split
    · rename_i h
      have h := eq_of_beq h
      rw [← h]
      exact List.count_pos_iff.2 (List.getElem_mem hi)
    · omega
  rw [List.getElem_set]
  by_cases e : i = k
  · subst e
    rw [if_pos rfl]
    omega
  · rw [if_neg e]
    by_cases h1 : (L[i] == a) = true <;> by_cases h2 : (L[k] == a) = true <;> simp only [h1, h2, if_true, if_false, Bool.false_eq_true] at p1 ⊢ <;> omega
theorem up_permK : ∀ (k : Nat) (L : List KE), k < L.length → (upFK L k).Perm L := by
  intro k
  induction k using Nat.strongRecOn with
  | _ k ih =>
    intro L hk
    by_cases e : k = 0
    · subst e; rw [upFK_zero]
    · cases hl : lessK (kG L k) (kG L ((k - 1) / 2)) with
      | false => rw [upFK_stop rfl hl]
      | true =>
        rw [upFK_step (by omega) rfl hl]
        exact (ih _ (by omega) _ (by rw [swapK_length]; omega)).trans (set_permK (by omega) hk)
theorem down_permK {n : Nat} : ∀ (m i : Nat) (L : List KE), n - i ≤ m → n ≤ L.length → (downFK L i n).1.Perm L ∧ ∀ j, n ≤ j → kG (downFK L i n).1 j = kG L j := by
  intro m
  induction m with
  | zero => intro i L hm hn; rw [downFK_end (by omega)]; exact ⟨List.Perm.refl _, fun _ _ => rfl⟩
  | succ m ih =>
    intro i L hm hn
    by_cases he : n ≤ 2 * i + 1
    · rw [downFK_end he]; exact ⟨List.Perm.refl _, fun _ _ => rfl⟩
    · have hic := childFK_gt L i n
      have hcn := childFK_lt (L := L) (i := i) (n := n) (by omega)
      cases hl : lessK (kG L (childFK L i n)) (kG L i) with
      | false => rw [downFK_stop rfl hl]; exact ⟨List.Perm.refl _, fun _ _ => rfl⟩
      | true =>
        rw [downFK_step he rfl hl]
        obtain ⟨h1, h2⟩ := ih (childFK L i n) (swapK L i (childFK L i n)) (by omega) (by rw [swapK_length]; exact hn)
        refine ⟨h1.trans (set_permK (by omega) (by omega)), fun j hj => ?_⟩
        rw [h2 j hj, kG_swap (by omega) (by omega), if_neg (by omega), if_neg (by omega)]
end Go.Proofs.YtjimcjhgjfhbiaaGreat
/- Plain laws on heaps of pointers to structs. -/
namespace Go.Proofs.YtjimcjhgjfhbiaaGreat

theorem less_iffK {a b : KE} : lessK a b = true ↔ a.2 < b.2 := by unfold lessK; simp
theorem less_notK {a b : KE} : lessK a b = false ↔ b.2 ≤ a.2 := by unfold lessK; simp
theorem less_asymmK {a b : KE} (h : lessK a b = true) : lessK b a = false := by rw [less_iffK] at h; rw [less_notK]; omega
theorem less_transK {a b c : KE} (h : lessK a b = true) (h2 : lessK b c = true) : lessK a c = true := by rw [less_iffK] at *; omega
theorem less_ntransK {a b c : KE} (h : lessK a b = false) (h2 : lessK b c = false) : lessK a c = false := by rw [less_notK] at *; omega
theorem less_irreflK (a : KE) : lessK a a = false := by rw [less_notK]; omega

def parK (j : Nat) : Nat := (j - 1) / 2
def HeapK (n : Nat) (L : List KE) : Prop := ∀ j, 0 < j → j < n → lessK (kG L j) (kG L (parK j)) = false
theorem heap_minK {n : Nat} {L : List KE} (h : HeapK n L) : ∀ j, j < n → lessK (kG L j) (kG L 0) = false := by
  intro j
  induction j using Nat.strongRecOn with
  | _ j ih =>
    intro hj
    by_cases e : j = 0
    · subst e; exact less_irreflK _
    · have hp : parK j < j := by unfold parK; omega
      exact less_ntransK (h j (by omega) hj) (ih (parK j) hp (by omega))
def UpOkK (n : Nat) (L : List KE) (k : Nat) : Prop := (∀ j, 0 < j → j < n → j ≠ k → lessK (kG L j) (kG L (parK j)) = false) ∧ ∀ j, 0 < j → j < n → parK j = k → 0 < k → lessK (kG L j) (kG L (parK k)) = false
theorem up_heapK {n : Nat} : ∀ (k : Nat) (L : List KE), k < n → n ≤ L.length → UpOkK n L k → HeapK n (upFK L k) := by
  intro k
  induction k using Nat.strongRecOn with
  | _ k ih =>
    intro L hk hn h
    by_cases e : k = 0
    · subst e
      rw [upFK_zero]
      exact fun j h1 h2 => h.1 j h1 h2 (by omega)
    · cases hl : lessK (kG L k) (kG L (parK k)) with
      | false =>
        rw [upFK_stop rfl hl]
        intro j h1 h2
        by_cases e2 : j = k
        · subst e2; exact hl
        · exact h.1 j h1 h2 e2
      | true =>
        obtain ⟨i, hi⟩ : ∃ i, parK k = i := ⟨_, rfl⟩
        rw [hi] at hl
        have hik : i < k := by unfold parK at hi; omega
        rw [upFK_step (by omega) hi hl]
        refine ih i hik _ (by omega) (by rw [swapK_length]; exact hn) ⟨fun j h1 h2 h3 => ?_, fun j h1 h2 h3 h4 => ?_⟩
        · rw [kG_swap (by omega) (by omega), kG_swap (by omega) (by omega)]
          by_cases e1 : j = k
          · subst e1
            rw [if_pos rfl, hi, if_neg (by omega), if_pos rfl]
            exact less_asymmK hl
          · rw [if_neg e1, if_neg h3]
            by_cases e2 : parK j = k
            · rw [if_pos e2]
              have := h.2 j h1 h2 e2 (by omega)
              rwa [hi] at this
            · rw [if_neg e2]
              by_cases e3 : parK j = i
              · rw [if_pos e3]
                have hj := h.1 j h1 h2 e1
                rw [e3] at hj
                cases hc : lessK (kG L j) (kG L k) with
                | false => rfl
                | true => rw [less_transK hc hl] at hj; cases hj
              · rw [if_neg e3]
                exact h.1 j h1 h2 e1
        · have hq : parK i < i := by unfold parK; omega
          rw [kG_swap (by omega) (by omega), kG_swap (by omega) (by omega), if_neg (show ¬ parK i = k by omega), if_neg (show ¬ parK i = i by omega)]
          have hii := h.1 i h4 (by omega) (by omega)
          by_cases e1 : j = k
          · rw [if_pos e1]; exact hii
          · have hji : ¬ j = i := by unfold parK at h3; omega
            rw [if_neg e1, if_neg hji]
            have hj := h.1 j h1 h2 e1
            rw [h3] at hj
            exact less_ntransK hj hii

def OffK (n : Nat) (L : List KE) (i : Nat) : Prop := (∀ j, 0 < j → j < n → j ≠ i → parK j ≠ i → lessK (kG L j) (kG L (parK j)) = false) ∧ ∀ j, 0 < j → j < n → parK j = i → 0 < i → lessK (kG L j) (kG L (parK i)) = false
theorem child_parK {L : List KE} {i n : Nat} : parK (childFK L i n) = i := by unfold childFK parK; split <;> omega
theorem child_leastK {L : List KE} {i n j : Nat} (h0 : 0 < j) (hj : j < n) (hp : parK j = i) (hne : j ≠ childFK L i n) : lessK (kG L j) (kG L (childFK L i n)) = false := by
  have hjj : j = 2 * i + 1 ∨ j = 2 * i + 2 := by unfold parK at hp; omega
  unfold childFK at hne ⊢
  split
  · rename_i h
    rw [if_pos h] at hne
    have : j = 2 * i + 1 := by omega
    subst this
    exact less_asymmK h.2
  · rename_i h
    rw [if_neg h] at hne
    have : j = 2 * i + 2 := by omega
    subst this
    cases hc : lessK (kG L (2 * i + 2)) (kG L (2 * i + 1)) with
    | false => rfl
    | true => exact absurd ⟨hj, hc⟩ h
theorem off_stepK {n : Nat} {L : List KE} {i c : Nat} (hn : n ≤ L.length) (h : OffK n L i) (hlt : 2 * i + 1 < n) (hc : childFK L i n = c) (hl : lessK (kG L c) (kG L i) = true) :
    (∀ j, 0 < j → j < n → parK j ≠ c → lessK (kG (swapK L i c) j) (kG (swapK L i c) (parK j)) = false) ∧ ∀ j, 0 < j → j < n → parK j = c → 0 < c → lessK (kG (swapK L i c) j) (kG (swapK L i c) (parK c)) = false := by
  have hcp : parK c = i := by rw [← hc]; exact child_parK
  have hcn : c < n := by rw [← hc]; exact childFK_lt hlt
  have hic : i < c := by rw [← hc]; exact childFK_gt L i n
  refine ⟨fun j h1 h2 h3 => ?_, fun j h1 h2 h3 _ => ?_⟩
  · rw [kG_swap (by omega) (by omega), kG_swap (by omega) (by omega), if_neg h3]
    by_cases e1 : j = c
    · subst e1
      rw [if_pos rfl, if_pos hcp]
      exact less_asymmK hl
    · rw [if_neg e1]
      by_cases e2 : j = i
      · subst e2
        have hpj : ¬ parK j = j := by unfold parK; omega
        rw [if_pos rfl, if_neg hpj]
        exact h.2 c (by omega) hcn hcp h1
      · rw [if_neg e2]
        by_cases e3 : parK j = i
        · rw [if_pos e3, ← hc]
          exact child_leastK h1 h2 e3 (by rw [hc]; exact e1)
        · rw [if_neg e3]
          exact h.1 j h1 h2 e2 e3
  · have hji : ¬ j = i := by unfold parK at h3; omega
    have hjc : ¬ j = c := by unfold parK at h3; omega
    rw [kG_swap (by omega) (by omega), kG_swap (by omega) (by omega), hcp, if_neg hjc, if_neg hji, if_neg (show ¬ i = c by omega), if_pos rfl]
    have := h.1 j h1 h2 hji (by rw [h3]; omega)
    rwa [h3] at this
theorem down_heapK {n : Nat} : ∀ (m i : Nat) (L : List KE), n - i ≤ m → n ≤ L.length → (∀ j, 0 < j → j < n → parK j ≠ i → lessK (kG L j) (kG L (parK j)) = false) → (∀ j, 0 < j → j < n → parK j = i → 0 < i → lessK (kG L j) (kG L (parK i)) = false) → HeapK n (downFK L i n).1 := by
  intro m
  induction m with
  | zero =>
    intro i L hm hn h1 h2
    rw [downFK_end (by omega)]
    exact fun j h3 h4 => h1 j h3 h4 (by unfold parK; omega)
  | succ m ih =>
    intro i L hm hn h1 h2
    by_cases he : n ≤ 2 * i + 1
    · rw [downFK_end he]
      exact fun j h3 h4 => h1 j h3 h4 (by unfold parK; omega)
    · obtain ⟨c, hc⟩ : ∃ c, childFK L i n = c := ⟨_, rfl⟩
      have hic : i < c := by rw [← hc]; exact childFK_gt L i n
      cases hl : lessK (kG L c) (kG L i) with
      | false =>
        rw [downFK_stop hc hl]
        intro j h3 h4
        by_cases e : parK j = i
        · rw [e]
          by_cases e2 : j = c
          · rw [e2]; exact hl
          · have := child_leastK (L := L) h3 h4 e (by rw [hc]; exact e2)
            rw [hc] at this
            exact less_ntransK this hl
        · exact h1 j h3 h4 e
      | true =>
        rw [downFK_step he hc hl]
        have hs := off_stepK hn ⟨fun j h3 h4 _ h5 => h1 j h3 h4 h5, h2⟩ (by omega) hc hl
        exact ih c _ (by omega) (by rw [swapK_length]; exact hn) hs.1 hs.2
theorem off_downK {n : Nat} {L : List KE} {i : Nat} (hn : n ≤ L.length) (h : OffK n L i) :
    (i < (downFK L i n).2 → HeapK n (downFK L i n).1) ∧ (¬ i < (downFK L i n).2 → (downFK L i n).1 = L ∧ UpOkK n L i) := by
  by_cases he : n ≤ 2 * i + 1
  · rw [downFK_end he]
    refine ⟨fun h => absurd h (Nat.lt_irrefl _), fun _ => ⟨rfl, fun j h1 h2 h3 => h.1 j h1 h2 h3 (by unfold parK; omega), h.2⟩⟩
  · obtain ⟨c, hc⟩ : ∃ c, childFK L i n = c := ⟨_, rfl⟩
    have hic : i < c := by rw [← hc]; exact childFK_gt L i n
    cases hl : lessK (kG L c) (kG L i) with
    | false =>
      rw [downFK_stop hc hl]
      refine ⟨fun h => absurd h (Nat.lt_irrefl _), fun _ => ⟨rfl, fun j h1 h2 h3 => ?_, h.2⟩⟩
      by_cases e : parK j = i
      · rw [e]
        by_cases e2 : j = c
        · rw [e2]; exact hl
        · have := child_leastK (L := L) h1 h2 e (by rw [hc]; exact e2)
          rw [hc] at this
          exact less_ntransK this hl
      · exact h.1 j h1 h2 h3 e
    | true =>
      rw [downFK_step he hc hl]
      have hs := off_stepK hn h (by omega) hc hl
      refine ⟨fun _ => down_heapK _ c _ (Nat.le_refl _) (by rw [swapK_length]; exact hn) hs.1 hs.2, fun h9 => absurd ?_ h9⟩
      have : ∀ (m k : Nat) (M : List KE), n - k ≤ m → k ≤ (downFK M k n).2 := by
        intro m
        induction m with
        | zero => intro k M hm; rw [downFK_end (by omega)]; exact Nat.le_refl _
        | succ m ih =>
          intro k M hm
          by_cases he : n ≤ 2 * k + 1
          · rw [downFK_end he]; exact Nat.le_refl _
          · have hkc := childFK_gt M k n
            cases hl : lessK (kG M (childFK M k n)) (kG M k) with
            | false => rw [downFK_stop rfl hl]; exact Nat.le_refl _
            | true =>
              rw [downFK_step he rfl hl]
              have := ih (childFK M k n) (swapK M k (childFK M k n)) (by omega)
              omega
      have := this _ c (swapK L i c) (Nat.le_refl _)
      omega

end Go.Proofs.YtjimcjhgjfhbiaaGreat
/- A row of pointers to structs in a field of a struct: contracts of Push and Pop. -/
namespace Go.Proofs.YtjimcjhgjfhbiaaGreat
open Go.RowKit Go.Lib

theorem info_pk : (Tryz.prog.info? 64).map (fun i => (i.zero, i.size, i.bytes)) = some (some (.pointer none), 1, 8) := by kernel_rfl
theorem Turn.grownK {S : Nat → Prop} {w w1 w2 : World} (h : Turn S w w1) {row : Option Nat} (hg : w1.grownBy w2 row) (hr : ∀ k, row = some k → k < w.heap.size → S k) : Turn S w w2 :=
  ⟨hg.os.trans h.1, hg.tape.trans h.2.1, hg.output.trans h.2.2.1, Nat.le_trans h.2.2.2.1 hg.size, fun k hk hs => (hg.block k (Nat.lt_of_lt_of_le hk h.2.2.2.1) (fun e => hs (hr k e.symm hk))).trans (h.2.2.2.2 k hk hs)⟩
theorem ownK_ne {w : World} {B r ro c : Nat} {vo : Option Addr} {L : List KE} (h : RowK w B r ro vo c L) (n : Nat) : some r ≠ Value.ownBlock (.slice vo n c) := fun e => by
  cases vo with
  | none => cases e
  | some a =>
    obtain ⟨g, o, s⟩ := a
    simp only [Value.ownBlock, Option.some.injEq] at e
    exact h.2.2.2.1 g o s rfl e.symm
theorem ownK_form {n c : Nat} {vo : Option Addr} {k : Nat} (h : Value.ownBlock (.slice vo n c) = some k) : ∃ o s, vo = some ⟨k, o, s⟩ := by
  cases vo with
  | none => cases h
  | some a =>
    obtain ⟨g, o, s⟩ := a
    simp only [Value.ownBlock, Option.some.injEq] at h
    exact ⟨o, s, by rw [h]⟩
def GrowsK (w : World) (r : Nat) (vo vo' : Option Addr) : Prop := ∀ g o s, vo' = some ⟨g, o, s⟩ → g < w.heap.size → FootK r vo g
/-- Behind a push: the row holds M. -/
def PushedK (w : World) (B r ro : Nat) (vo : Option Addr) (M : List KE) (w' : World) : Prop := (∃ vo' c', RowK w' B r ro vo' c' M ∧ GrowsK w r vo vo') ∧ TK r ro vo w w'
theorem pushK_fin {w w1 w3 : World} {B r ro c g cap : Nat} {vo : Option Addr} {L : List KE} (h : RowK w B r ro vo c L) {x : KE} (hx : UsedAt w r vo x) (hlen : L.length < 1000000) (hb : Below w.heap.size w w1)
    (hown : w3.ownsRow B 64 1 (.slice (some ⟨g, 0, none⟩) (L.length + 1) cap) (L.length + 1) (kV L ++ [kP x]))
    (hg : w1.grownBy w3 (Value.ownBlock (.slice vo L.length c))) (hat : Value.ownBlock (.slice vo L.length c) = some g ∨ g = w1.heap.size) :
    PushedK w B r ro vo (L ++ [x]) (w3.setCell ⟨r, ro, none⟩ (.slice (some ⟨g, 0, none⟩) (L.length + 1) cap)) := by
  have hr := h.lt
  have hsz := hb.size
  have er3 : ∀ b, b < w.heap.size → (∀ o s, vo ≠ some ⟨b, o, s⟩) → w3.heap[b]? = w.heap[b]? := fun b hlt hne => by
    rw [hg.block b (by omega) (fun e => by obtain ⟨o, s, e2⟩ := ownK_form e.symm; exact hne o s e2)]
    exact hb.block b hlt
  have hvr : ∀ o s, vo ≠ some ⟨r, o, s⟩ := fun o s e => h.2.2.2.1 _ _ _ e rfl
  have hgk : ∀ b, b < w.heap.size → (∀ o s, vo ≠ some ⟨b, o, s⟩) → g ≠ b := fun b hlt hne e => by
    subst e
    rcases hat with e1 | e1
    · obtain ⟨o, s, e2⟩ := ownK_form e1; exact hne o s e2
    · omega
  have hgr : g ≠ r := hgk r hr hvr
  have hl : (L ++ [x]).length = L.length + 1 := by simp
  have c3 : ∀ j, w3.cell? ⟨r, j, none⟩ = w.cell? ⟨r, j, none⟩ := fun j => World.cell?_of_block (w := w) (a := ⟨r, j, none⟩) (er3 r hr hvr)
  have f3 : ∀ j, w3.frozen? ⟨r, j, none⟩ = w.frozen? ⟨r, j, none⟩ := fun j => World.frozen?_of_block (w := w) (a := ⟨r, j, none⟩) (er3 r hr hvr)
  refine ⟨⟨some ⟨g, 0, none⟩, cap, ⟨?_, ?_, ?_, fun g' o' s' e => by cases e; exact hgr, by omega, fun q hq => ?_⟩, fun g' o' s' e hlt => ?_⟩, ?_, fun j hj => ?_, fun j => ?_⟩
  · rw [hl]; exact World.cell?_setCell_same _ _ _ ((c3 ro).trans h.1)
  · rw [World.frozen?_setCell]; exact (f3 ro).trans h.2.1
  · rw [hl, kV_snoc]
    exact ownsRow_setCell_other hown (by simpa [Value.ownBlock] using hgr) _
  · have hu : UsedAt w r vo q := by
      rcases List.mem_append.1 hq with h1 | h1
      · exact h.used q h1
      · rw [List.mem_singleton.1 h1]; exact hx
    have hql := World.block_lt_of_cell? w _ hu.1
    have hqv : ∀ o s, vo ≠ some ⟨q.1, o, s⟩ := fun o s e => hu.2.2 _ _ _ e rfl
    refine ⟨?_, hu.2.1, fun g' o' s' e => by cases e; exact hgk q.1 hql hqv⟩
    rw [World.cell?_setCell_other _ _ _ _ (by intro he; exact hu.2.1 (congrArg Addr.block he).symm), World.cell?_of_block (w := w) (a := ⟨q.1, 5, none⟩) (er3 q.1 hql hqv)]
    exact hu.1
  · cases e
    rcases hat with e1 | e1
    · exact .inr (ownK_form e1)
    · omega
  · exact ((Turn.of_below hb).grownK hg (fun k hk _ => .inr (ownK_form hk))).setCell (.inl rfl) _
  · rw [World.cell?_setCell_other _ _ _ _ (by intro he; simp at he)]; exact c3 j
  · rw [World.frozen?_setCell]; exact f3 j
set_option maxRecDepth 100000 in
set_option maxHeartbeats 1000000 in
theorem rpushK_any {w : World} {B r ro c : Nat} {vo : Option Addr} {L : List KE} (h : RowK w B r ro vo c L) (hB : B ≤ w.heap.size) (x : KE) (hx : UsedAt w r vo x) (hlen : L.length < 1000000) :
    Calls Tryz.prog 164 #[.pointer (some ⟨r, ro, none⟩), .iface 64 (kP x)] w fun e w' => e = .returned (.tuple #[]) ∧ PushedK w B r ro vo (L ++ [x]) w' := by
  obtain ⟨i0, hi, hz0, hz1, hz2⟩ := info_parts info_pk
  have hta : ∀ (p : Nat) (w : World), (Instr.typeAssert (.iface 64 (.pointer (some ⟨p, 0, none⟩))) 20 64 true).run Tryz.prog w = .ok (.tuple #[.pointer (some ⟨p, 0, none⟩), .bool true]) w := fun _ _ => by kernel_rfl
  have hr := h.lt
  obtain ⟨w1, hw1⟩ : ∃ W, w.alloc (.cells #[kP x] 64) = W := ⟨_, rfl⟩
  have hb : Below w.heap.size w w1 := by rw [← hw1]; exact (Below.refl _ _).alloc (Nat.le_refl _) _
  have hsz : w1.heap.size = w.heap.size + 1 := by rw [← hw1]; exact World.size_alloc _ _
  have h1 := h.below hb
  have HO : Hid (w1.ownsRow B 64 1 (.slice vo L.length c) L.length (kV L)) := h1.2.2.1
  have HNW : Hid (∀ j u, ([kP x] : List Value)[j]? = some u → w1.cell? ((⟨w.heap.size, 0, none⟩ : Addr).add j) = some u) := by rw [← hw1]; exact cells_new _ _ _ _ rfl
  have c0 := h.1
  have f0 := h.2.1
  have D0 : Hid (w1.cell? ⟨r, ro, none⟩ = some (.slice vo L.length c)) := h1.1
  have F0 : Hid (w1.frozen? ⟨r, ro, none⟩ = false) := h1.2.1
  have NR := Lib.hid (ownK_ne h L.length)
  have SZ : Hid (r < w1.heap.size) := by show _ < _; omega
  have HB1 : Hid (B ≤ w1.heap.size) := by show _ ≤ _; omega
  have HALL := Lib.hid (And.intro h (And.intro hx hb))
  have HW1 := Lib.hid hw1
  have HV : Hid ((kV L).length = L.length * 1) := by show _ = _; rw [kV_length, Nat.mul_one]
  clear h1 hb hw1 h hx hsz
  obtain ⟨n, hn⟩ : ∃ n, L.length = n := ⟨_, rfl⟩
  have HN := Lib.hid hn
  rw [hn] at c0 hlen HO D0 NR
  clear hn
  unfold kP at *
  go_enter Tryz.func164, Tryz.ntmps164
  go_wp2_with (rw [HW1.out]; at_builtin; refine wpList_append_lies _ rfl (.tmp 15) (.tmp 17) 55 rfl B 64 i0 (.pointer none) 1 8 Tryz.underlying55 hi hz0 hz1 hz2 rfl (by decide) (.slice vo n c) n (kV L) rfl HO.out ⟨w.heap.size, 0, none⟩ 1 1 [.pointer (some ⟨x.1, 0, none⟩)] rfl rfl HNW.out (by simp [Value.oneCell']) (by decide) (by unfold maxLen; omega) (by omega) HB1.out _ rfl ?_; intro g cap w3 hown3 hgrow hat hlt; have c3 := (hgrow.cell_far ⟨r, ro, none⟩ SZ.out NR.out).trans D0.out; have f3 := (hgrow.frozen_far ⟨r, ro, none⟩ SZ.out NR.out).trans F0.out; have r3 := World.block_lt_of_cell? _ _ c3; have HOWN := Lib.hid hown3; have HGR := Lib.hid hgrow; have HAT := Lib.hid hat; clear hown3 hgrow hat)
  go_end0
  have hN := HN.out
  subst hN
  exact ⟨rfl, pushK_fin HALL.out.1 HALL.out.2.1 hlen HALL.out.2.2 HOWN.out HGR.out HAT.out⟩
set_option maxRecDepth 100000 in
set_option maxHeartbeats 1000000 in
theorem rpopK_any {w : World} {B r ro c : Nat} {vo : Option Addr} {L : List KE} {x : KE} (h : RowK w B r ro vo c (L ++ [x])) :
    Calls Tryz.prog 163 #[.pointer (some ⟨r, ro, none⟩)] w fun e w' => e = .returned (.iface 64 (kP x)) ∧ RowK w' B r ro vo c L ∧ TK r ro vo w w' := by
  have hl : (L ++ [x]).length = L.length + 1 := by simp
  have hr := h.lt
  have hlen := h.len
  have c0 := h.1
  have f0 := h.2.1
  rw [hl] at c0 hlen
  obtain ⟨g, rfl, hg, hgr, hf, hc⟩ := h.cells (by omega)
  have x0 := hc L.length (by omega)
  have hgx : kG (L ++ [x]) L.length = x := by
    unfold kG; rw [List.getD_eq_getElem?_getD, List.getElem?_append_right (Nat.le_refl _)]; simp
  rw [hgx] at x0
  have hcap : L.length + 1 ≤ c := by
    rcases h.2.2.1.2 with ⟨h2, _⟩ | ⟨g', cap, cur, hv, _, _, hn, _⟩
    · cases h2
    · cases hv; omega
  have hw1 : IntKind.i64.wrap ((L.length : Int) + 1 - 1) = (L.length : Int) := by rw [Int.add_sub_cancel]; exact IntWalk.i64_in _ (by omega)
  have HF : Hid (RowK (w.setCell ⟨r, ro, none⟩ (.slice (some ⟨g, 0, none⟩) L.length c)) B r ro (some ⟨g, 0, none⟩) c L ∧ TK r ro (some ⟨g, 0, none⟩) w (w.setCell ⟨r, ro, none⟩ (.slice (some ⟨g, 0, none⟩) L.length c))) := by
    refine ⟨⟨World.cell?_setCell_same _ _ _ h.1, by rw [World.frozen?_setCell]; exact h.2.1, ?_, h.2.2.2.1, by omega, fun q hq => ?_⟩, ⟨(Turn.refl _ _).setCell (.inl rfl) _, fun j hj => World.cell?_setCell_other _ _ _ _ (by intro he; simp at he), fun j => World.frozen?_setCell _ _ _ _⟩⟩
    · have ho := own_take (m := L.length) h.2.2.1 (by rw [hl]; omega)
      rw [kV_append, List.take_append_of_le_length (by rw [kV_length]; omega), List.take_of_length_le (by rw [kV_length]; omega)] at ho
      exact ownsRow_setCell_other ho (by simpa [Value.ownBlock] using hgr) _
    · have hu := h.used q (List.mem_append_left _ hq)
      exact ⟨(World.cell?_setCell_other _ _ _ _ (by intro he; exact hu.2.1 (congrArg Addr.block he).symm)).trans hu.1, hu.2⟩
  obtain ⟨n, hn⟩ : ∃ n, L.length = n := ⟨_, rfl⟩
  rw [hn] at c0 hcap hlen x0 HF hw1
  clear h hl hgx hn hf hc
  unfold kP at *
  go_enter Tryz.func163, Tryz.ntmps163
  go_wp2
  go_ret
  exact ⟨rfl, HF.out⟩
end Go.Proofs.YtjimcjhgjfhbiaaGreat
/- A row of pointers to structs in a field of a struct: contracts of container/heap's Push and Pop, with order. -/
namespace Go.Proofs.YtjimcjhgjfhbiaaGreat
open Go.RowKit Go.Lib

theorem kG_append {L : List KE} {x : KE} {j : Nat} (h : j < L.length) : kG (L ++ [x]) j = kG L j := by
  unfold kG; rw [List.getD_eq_getElem?_getD, List.getElem?_append_left h, List.getD_eq_getElem?_getD]
theorem kG_take {L : List KE} {m j : Nat} (hj : j < m) : kG (L.take m) j = kG L j := by
  unfold kG; rw [List.getD_eq_getElem?_getD, List.getElem?_take_of_lt hj, List.getD_eq_getElem?_getD]
theorem heap_takeK {L : List KE} {m : Nat} (h : HeapK m L) : HeapK m (L.take m) := fun j h1 h2 => by
  have hp : parK j < j := by unfold parK; omega
  rw [kG_take h2, kG_take (by omega)]
  exact h j h1 h2
theorem push_heapK {L : List KE} {x : KE} {n : Nat} (hn : L.length = n) (h : HeapK L.length L) : HeapK (upFK (L ++ [x]) n).length (upFK (L ++ [x]) n) := by
  subst hn
  have hl : (L ++ [x]).length = L.length + 1 := by simp
  have hll : (upFK (L ++ [x]) L.length).length = L.length + 1 := ((up_permK L.length (L ++ [x]) (by omega)).length_eq).trans hl
  rw [hll]
  refine up_heapK L.length (L ++ [x]) (by omega) (by omega) ⟨fun j h1 h2 h3 => ?_, fun j h1 h2 h3 h4 => ?_⟩
  · have hp : parK j < j := by unfold parK; omega
    rw [kG_append (by omega), kG_append (by omega)]
    exact h j h1 (by omega)
  · unfold parK at h3; omega
theorem footK_trans {w : World} {r : Nat} {vo vo' : Option Addr} (h : GrowsK w r vo vo') : ∀ k, k < w.heap.size → FootK r vo' k → FootK r vo k := fun k hk hf => by
  rcases hf with h1 | ⟨o, s, h1⟩
  · exact .inl h1
  · exact h k o s h1 hk
/-- Behind heap.Push: one more, in whatever order. -/
def HPushedK (w : World) (B r ro : Nat) (vo : Option Addr) (L : List KE) (x : KE) (w' : World) : Prop := ∃ M : List KE, M.Perm (x :: L) ∧ HeapK M.length M ∧ PushedK w B r ro vo M w'
set_option maxRecDepth 100000 in
set_option maxHeartbeats 1000000 in
theorem hpushK_any {w : World} {B r ro c : Nat} {vo : Option Addr} {L : List KE} (h : RowK w B r ro vo c L) (hH : HeapK L.length L) (hB : B ≤ w.heap.size) (x : KE) (hx : UsedAt w r vo x) (hlen : L.length < 1000000) :
    Calls Tryz.prog 25 #[ifcK r ro, .iface 64 (kP x)] w fun e w' => e = .returned (.tuple #[]) ∧ HPushedK w B r ro vo L x w' := by
  have HP := Lib.hid (rpushK_any h hB x hx hlen)
  have HH := Lib.hid hH
  clear h hB hx hH
  obtain ⟨n, hn⟩ : ∃ n, L.length = n := ⟨_, rfl⟩
  have HN := Lib.hid hn
  rw [hn] at hlen
  clear hn
  unfold ifcK
  go_enter Tryz.func25, Tryz.ntmps25
  go_wp2_with fail
  refine HP.out.mono ?_
  rintro e w1 ⟨rfl, ⟨vo', c', hr1, hg1⟩, ht1⟩
  have HR1 := Lib.hid hr1
  have HG1 := Lib.hid hg1
  have HT1 := Lib.hid ht1
  have HLL : Hid ((L ++ [x]).length = n + 1) := by show _ = _; rw [List.length_append, HN.out]; rfl
  have mth := methK_len (hr1.head HLL.out)
  have HLN := Lib.hid (klen_any vo' (n + 1) c' w1)
  have q1 : IntKind.i64.wrap (((n + 1 : Nat) : Int) - 1) = n := by rw [show ((n + 1 : Nat) : Int) - 1 = n by omega]; exact wrap_in (by omega) (by omega)
  clear hr1 hg1 ht1
  go_wp2_with fail
  refine HLN.out.mono ?_
  rintro e w2 ⟨rfl, rfl⟩
  have HU := Lib.hid (upK_any HR1.out (j0 := n) (by rw [HLL.out]; omega))
  unfold ifcK at HU
  have HF : Hid (∀ w3, RowK w3 B r ro vo' c' (upFK (L ++ [x]) n) → TK r ro vo' w1 w3 → HPushedK w B r ro vo L x w3) := fun w3 hr3 ht3 =>
    ⟨_, (up_permK n (L ++ [x]) (by rw [HLL.out]; omega)).trans List.perm_append_comm, push_heapK HN.out HH.out, ⟨vo', c', hr3, HG1.out⟩, HT1.out.trans ht3 fun k hk hf => footK_trans HG1.out k hk hf⟩
  go_wp2_with fail
  refine HU.out.mono ?_
  rintro e w3 ⟨rfl, hr3, ht3⟩
  have HFF := Lib.hid (HF.out w3 hr3 ht3)
  clear hr3 ht3 HF
  go_wp2
  go_end0
  exact ⟨rfl, HFF.out⟩
theorem split_lastK {L : List KE} {m : Nat} (h : L.length = m + 1) : L = L.take m ++ [kG L m] := by
  have e : kG L m = L[m]'(by omega) := by unfold kG; rw [List.getD_eq_getElem?_getD, List.getElem?_eq_getElem (by omega), Option.getD_some]
  rw [e, ← List.take_succ_eq_append_getElem (by omega), ← h, List.take_length]
/-- Behind heap.Pop: x is taken. -/
def HPoppedK (w : World) (B r ro : Nat) (vo : Option Addr) (c : Nat) (L : List KE) (x : KE) (w' : World) : Prop := ∃ L' : List KE, (x :: L').Perm L ∧ HeapK L'.length L' ∧ RowK w' B r ro vo c L' ∧ TK r ro vo w w'
set_option maxRecDepth 100000 in
set_option maxHeartbeats 1000000 in
theorem hpopK_any {w : World} {B r ro c m : Nat} {vo : Option Addr} {L : List KE} (h : RowK w B r ro vo c L) (hH : HeapK L.length L) (hL : L.length = m + 1) :
    Calls Tryz.prog 26 #[ifcK r ro] w fun e w' => e = .returned (.iface 64 (kP (kG L 0))) ∧ HPoppedK w B r ro vo c L (kG L 0) w' := by
  have mth1 := methK_len (h.head hL)
  have mth2 := methK_swap (h.head hL)
  have HLN := Lib.hid (klen_any vo (m + 1) c w)
  have HS := Lib.hid (rswapK_any h hL (i := 0) (k := m) (by omega) (by omega))
  have HH := Lib.hid h
  have hm : m < 1000000 := by have := h.len; omega
  have HL := Lib.hid hL
  have q1 : IntKind.i64.wrap (((m + 1 : Nat) : Int) - 1) = m := by rw [show ((m + 1 : Nat) : Int) - 1 = m by omega]; exact wrap_in (by omega) (by omega)
  obtain ⟨x, hx⟩ : ∃ x, kG L 0 = x := ⟨_, rfl⟩
  rw [hx]
  have HX := Lib.hid hx
  have HO := Lib.hid hH
  clear h hL hx hH
  unfold ifcK
  go_enter Tryz.func26, Tryz.ntmps26
  go_wp2_with fail
  refine HLN.out.mono ?_
  rintro e w1 ⟨rfl, rfl⟩
  go_wp2_with fail
  refine HS.out.mono ?_
  rintro e w2 ⟨rfl, hr2, ht2⟩
  have HT2 := Lib.hid ht2
  have HD := Lib.hid (downK_any hr2 (i0 := 0) (n := m) (by rw [swapK_length, HL.out]; omega) (by rw [swapK_length, HL.out]; omega))
  unfold ifcK at HD
  clear hr2 ht2 mth1 mth2
  go_wp2_with fail
  refine HD.out.mono ?_
  rintro e w3 ⟨rfl, hr3, ht3⟩
  have hdp := down_permK m 0 (swapK L 0 m) (by omega) (n := m) (by rw [swapK_length, HL.out]; omega)
  have hdl : (downFK (swapK L 0 m) 0 m).1.length = m + 1 := by rw [hdp.1.length_eq, swapK_length, HL.out]
  have hdx : kG (downFK (swapK L 0 m) 0 m).1 m = x := by
    rw [hdp.2 m (Nat.le_refl _), kG_swap (by rw [HL.out]; omega) (by rw [HL.out]; omega), if_pos rfl, HX.out]
  have hdh : HeapK m (downFK (swapK L 0 m) 0 m).1 := by
    refine down_heapK m 0 _ (by omega) (by rw [swapK_length, HL.out]; omega) (fun j h1 h2 h3 => ?_) (fun _ _ _ _ h => absurd h (Nat.lt_irrefl _))
    have hp : parK j < j := by unfold parK; omega
    rw [kG_swap (by rw [HL.out]; omega) (by rw [HL.out]; omega), kG_swap (by rw [HL.out]; omega) (by rw [HL.out]; omega), if_neg (by omega), if_neg (by omega), if_neg (by omega), if_neg (by omega)]
    exact HO.out j h1 (by rw [HL.out]; omega)
  have hpm : (downFK (swapK L 0 m) 0 m).1.Perm L := hdp.1.trans (set_permK (by rw [HL.out]; omega) (by rw [HL.out]; omega))
  have hr4 := hr3
  rw [split_lastK hdl, hdx] at hr4
  have HP := Lib.hid (rpopK_any hr4)
  have HT3 := Lib.hid (HT2.out.trans ht3 fun _ _ h => h)
  have HF : Hid (∀ w4, RowK w4 B r ro vo c ((downFK (swapK L 0 m) 0 m).1.take m) → TK r ro vo w3 w4 → HPoppedK w B r ro vo c L x w4) := fun w4 h4 t4 => by
    refine ⟨_, ?_, by rw [List.length_take, hdl, Nat.min_eq_left (by omega)]; exact heap_takeK hdh, h4, HT3.out.trans t4 fun _ _ h => h⟩
    have e := split_lastK hdl
    rw [hdx] at e
    have h2 : (x :: (downFK (swapK L 0 m) 0 m).1.take m).Perm ((downFK (swapK L 0 m) 0 m).1.take m ++ [x]) := List.perm_append_comm (l₁ := [x])
    rw [← e] at h2
    exact h2.trans hpm
  clear hr3 ht3 hdp hdl hdx hpm hdh hr4 HD HT2
  go_wp2_with fail
  refine HP.out.mono ?_
  rintro e w4 ⟨rfl, hr5, ht5⟩
  have HFF := Lib.hid (HF.out w4 hr5 ht5)
  clear hr5 ht5 HF
  go_wp2
  go_ret
  exact ⟨rfl, HFF.out⟩
end Go.Proofs.YtjimcjhgjfhbiaaGreat
/- A row of pointers to structs in a field of a struct: contracts of container/heap's Fix and Remove, with order. -/
namespace Go.Proofs.YtjimcjhgjfhbiaaGreat
open Go.RowKit Go.Lib

def FixedK (w : World) (B r ro : Nat) (vo : Option Addr) (c : Nat) (L : List KE) (e : Ending) (w' : World) : Prop :=
  e = .returned (.tuple #[]) ∧ ∃ L', RowK w' B r ro vo c L' ∧ HeapK L'.length L' ∧ L'.Perm L ∧ TK r ro vo w w'
set_option maxHeartbeats 1000000 in
theorem hfixK_any {w : World} {B r ro c i : Nat} {vo : Option Addr} {L : List KE} (h : RowK w B r ro vo c L) (ho : OffK L.length L i) (hi : i < L.length) :
    Calls Tryz.prog 48 #[ifcK r ro, .int .i64 i] w (FixedK w B r ro vo c L) := by
  have HLN := Lib.hid (klen_any vo L.length c w)
  have mth := methK_len h.1
  have HD := Lib.hid (downK_any h (i0 := i) (n := L.length) hi (Nat.le_refl _))
  obtain ⟨g1, g2⟩ := off_downK (Nat.le_refl _) ho
  have hdp := down_permK (n := L.length) (L.length - i) i L (Nat.le_refl _) (Nat.le_refl _)
  have G1 := Lib.hid g1
  have G2 := Lib.hid g2
  have HDP := Lib.hid hdp.1
  have HI := Lib.hid hi
  unfold ifcK at HD
  clear h ho g1 g2 hdp hi
  obtain ⟨o, hob⟩ : ∃ o, decide (i < (downFK L i L.length).2) = o := ⟨_, rfl⟩
  rw [hob] at HD
  have HO := Lib.hid hob
  clear hob
  unfold ifcK
  go_enter Tryz.func48, Tryz.ntmps48
  go_wp2_with fail
  refine HLN.out.mono ?_
  rintro e w1 ⟨rfl, rfl⟩
  go_wp2_with fail
  refine HD.out.mono ?_
  rintro e w2 ⟨rfl, hr2, ht2⟩
  cases o with
  | true =>
    have HF : Hid (FixedK w B r ro vo c L (.returned (.tuple #[])) w2) :=
      ⟨rfl, _, hr2, by rw [HDP.out.length_eq]; exact G1.out (of_decide_eq_true HO.out), HDP.out, ht2⟩
    clear hr2 ht2
    go_wp2
    go_end0
    exact HF.out
  | false =>
    obtain ⟨e1, e2⟩ := G2.out (of_decide_eq_false HO.out)
    rw [e1] at hr2
    have HU := Lib.hid (upK_any hr2 (j0 := i) HI.out)
    unfold ifcK at HU
    have HT2 := Lib.hid ht2
    have HE2 := Lib.hid e2
    clear hr2 ht2 e1 e2
    go_wp2_with fail
    refine HU.out.mono ?_
    rintro e w3 ⟨rfl, hr3, ht3⟩
    have HF : Hid (FixedK w B r ro vo c L (.returned (.tuple #[])) w3) :=
      ⟨rfl, _, hr3, by rw [(up_permK i L HI.out).length_eq]; exact up_heapK i L HI.out (Nat.le_refl _) HE2.out, up_permK i L HI.out, HT2.out.trans ht3 fun _ _ h => h⟩
    clear hr3 ht3
    go_wp2
    go_end0
    exact HF.out
end Go.Proofs.YtjimcjhgjfhbiaaGreat
/- Contracts of slices.IndexFunc at a row of pointers with the function (*apiary/cache.Cache).find$1. -/
namespace Go.Proofs.YtjimcjhgjfhbiaaGreat
open Go.RowKit Go.Lib

/-- What a function tells of one of a row, in whatever later world. -/
def AskK (g : Nat) (cb : Array Value) (p : KE → Bool) (w : World) (L : List KE) : Prop :=
  ∀ (W : World) (x : KE), Below w.heap.size w W → x ∈ L → Calls Tryz.prog g (#[kP x] ++ cb) W fun e w' => e = .returned (.bool (p x)) ∧ Below W.heap.size W w'
/-- What IndexFunc tells. -/
def idxK (p : KE → Bool) (L : List KE) : Int := if L.findIdx p < L.length then (L.findIdx p : Int) else -1
theorem idxK_at {p : KE → Bool} {L : List KE} {k : Nat} (hk : k < L.length) (h1 : ∀ j, j < k → p (kG L j) = false) (h2 : p (kG L k) = true) : idxK p L = k := by
  have e : L.findIdx p = k := by
    rw [List.findIdx_eq hk]
    refine ⟨by unfold kG at h2; rw [List.getD_eq_getElem?_getD, List.getElem?_eq_getElem hk] at h2; exact h2, fun j hj => ?_⟩
    have := h1 j hj
    unfold kG at this
    rw [List.getD_eq_getElem?_getD, List.getElem?_eq_getElem (show j < L.length by omega)] at this
    exact this
  unfold idxK
  rw [e, if_pos hk]
theorem idxK_none {p : KE → Bool} {L : List KE} (h1 : ∀ j, j < L.length → p (kG L j) = false) : idxK p L = -1 := by
  have e : L.findIdx p = L.length := List.findIdx_eq_length_of_false fun x hx => by
    obtain ⟨j, hj, e⟩ := kG_of_mem hx
    rw [← e]; exact h1 j hj
  unfold idxK
  rw [e, if_neg (Nat.lt_irrefl _)]
set_option maxRecDepth 100000 in
set_option maxHeartbeats 4000000 in
theorem kindex_any (cb : Array Value) (p : KE → Bool) {w : World} {B r ro n c : Nat} {ao : Option Addr} {L : List KE} (h : RowK w B r ro ao c L) (hn : L.length = n) (ha : AskK 47 cb p w L) :
    Calls Tryz.prog 46 #[.slice ao n c, .func (.func 47) #[] cb] w fun e w' => e = .returned (.int .i64 (idxK p L)) ∧ Below w.heap.size w w' := by
  have HW := Lib.hid h
  have HA := Lib.hid ha
  have HN := Lib.hid hn
  have hbig : n ≤ 1000000 := by have := h.len; omega
  have HY : Hid (∀ k, k < L.length → (∀ j, j < k → p (kG L j) = false) → p (kG L k) = true → idxK p L = k) := fun k hk h1 h2 => idxK_at hk h1 h2
  have HZ : Hid ((∀ j, j < L.length → p (kG L j) = false) → idxK p L = -1) := fun h => idxK_none h
  generalize idxK p L = res at *
  clear h ha hn
  go_enter Tryz.func46, Tryz.ntmps46
  go_upto_region 2 with (fail)
  go_loopg [5, 8] n (fun q _ s8 wr => ∃ k : Nat, k ≤ n ∧ n - k ≤ q ∧ s8 = .int .i64 k ∧ Hid (Below w.heap.size w wr ∧ ∀ j, j < k → p (kG L j) = false))
  case atStart => exact ⟨0, by omega, by omega, by go_num, Below.refl _ _, fun j hj => by omega⟩
  case round =>
    obtain ⟨k, hk, hq, rfl, HR⟩ := hrel
    by_cases hlt : k < n
    · obtain ⟨b, rfl, hb, -, -, hc⟩ := (HW.out.below HR.out.1).cells (by have := HN.out; omega)
      have c0 := hc k (by have := HN.out; omega)
      have hki : (k : Int) < (n : Int) := by omega
      have hcall := HA.out wr (kG L k) HR.out.1 (kG_mem (by have := HN.out; omega))
      obtain ⟨x, hx⟩ : ∃ x, kG L k = x := ⟨_, rfl⟩
      have HX := Lib.hid hx
      rw [hx] at c0 hcall
      clear hc hx hb
      unfold kP at *
      cases hp : p x with
      | true =>
        rw [hp] at hcall
        go_wp2_with (go_at_call 47; refine hcall.mono ?_; rintro e w2 ⟨rfl, hb2⟩)
        go_ret
        exact ⟨by rw [HY.out k (by have := HN.out; omega) HR.out.2 (by rw [HX.out]; exact hp)]; rfl, HR.out.1.trans (hb2.mono HR.out.1.size)⟩
      | false =>
        rw [hp] at hcall
        go_wp2_with (go_at_call 47; refine hcall.mono ?_; rintro e w2 ⟨rfl, hb2⟩)
        go_roundg (n - (k + 1))
        case measure => omega
        case rel =>
          refine ⟨k + 1, by omega, Nat.le_refl _, by go_num, HR.out.1.trans (hb2.mono HR.out.1.size), fun j hj => ?_⟩
          by_cases e : j = k
          · subst e; rw [HX.out]; exact hp
          · exact HR.out.2 j (by omega)
    · obtain rfl : k = n := by omega
      have hki : ¬ (k : Int) < (k : Int) := by omega
      go_wp2
      go_ret
      exact ⟨by rw [HZ.out fun j hj => HR.out.2 j (by have := HN.out; omega)]; rfl, HR.out.1⟩
end Go.Proofs.YtjimcjhgjfhbiaaGreat
/- Contract of (*apiary/cache.Cache).find$1: whether a kept's tile is the one asked for. -/
namespace Go.Proofs.YtjimcjhgjfhbiaaGreat
open Go.RowKit Go.Lib

/-- A tile: Z, X, Y, R in the struct's order. -/
abbrev TL := Int × Int × Int × Int
def TileAt (w : World) (b : Nat) (t : TL) : Prop := w.cell? ⟨b, 0, none⟩ = some (.int .i64 t.1) ∧ w.cell? ⟨b, 1, none⟩ = some (.int .i64 t.2.1) ∧ w.cell? ⟨b, 2, none⟩ = some (.int .i64 t.2.2.1) ∧ w.cell? ⟨b, 3, none⟩ = some (.int .i64 t.2.2.2)
set_option maxRecDepth 100000 in
set_option maxHeartbeats 1000000 in
theorem kask_any {w : World} {q : KE} {tb : Nat} {u t : TL} (hu : TileAt w q.1 u) (ht : TileAt w tb t) :
    Calls Tryz.prog 47 #[kP q, .pointer (some ⟨tb, 0, none⟩)] w fun e w' => e = .returned (.bool (decide (u = t))) ∧ Below w.heap.size w w' := by
  obtain ⟨u0, u1, u2, u3⟩ := hu
  obtain ⟨t0, t1, t2, t3⟩ := ht
  obtain ⟨a, b, c, d⟩ := u
  obtain ⟨a', b', c', d'⟩ := t
  unfold kP
  by_cases e1 : a = a' <;> by_cases e2 : b = b' <;> by_cases e3 : c = c' <;> by_cases e4 : d = d'
  all_goals
    have HD : Hid (decide ((a, b, c, d) = (a', b', c', d')) = (decide (a = a') && decide (b = b') && decide (c = c') && decide (d = d'))) := by show _ = _; simp [Bool.and_assoc]
    rw [HD.out]
    simp only [e1, e2, e3, e4, decide_true, decide_false, Bool.and_true, Bool.and_false]
    go_enter Tryz.func47, Tryz.ntmps47
    go_wp2_with fail
    go_region
    go_wp2
    go_ret
    exact ⟨rfl, (Below.refl _ w).drew⟩
end Go.Proofs.YtjimcjhgjfhbiaaGreat
/- Contract of (*apiary/cache.Cache).find. -/
namespace Go.Proofs.YtjimcjhgjfhbiaaGreat
open Go.RowKit Go.Lib

def tlV (t : TL) : Value := .agg #[.int .i64 t.1, .int .i64 t.2.1, .int .i64 t.2.2.1, .int .i64 t.2.2.2]
theorem TileAt.below {w w' : World} {b : Nat} {t : TL} (h : TileAt w b t) (hb : Below w.heap.size w w') : TileAt w' b t := by
  have hl := World.block_lt_of_cell? w _ h.1
  have e := hb.block b hl
  exact ⟨(World.cell?_of_block (a := ⟨b, 0, none⟩) e).trans h.1, (World.cell?_of_block (a := ⟨b, 1, none⟩) e).trans h.2.1, (World.cell?_of_block (a := ⟨b, 2, none⟩) e).trans h.2.2.1, (World.cell?_of_block (a := ⟨b, 3, none⟩) e).trans h.2.2.2⟩
set_option maxRecDepth 100000 in
set_option maxHeartbeats 1000000 in
theorem kfind_any {w : World} {B r c : Nat} {vo : Option Addr} {L : List KE} (h : RowK w B r 2 vo c L) (T : KE → TL) (hT : ∀ q ∈ L, TileAt w q.1 (T q)) (t : TL) :
    Calls Tryz.prog 22 #[.pointer (some ⟨r, 0, none⟩), tlV t] w fun e w' => e = .returned (.int .i64 (idxK (fun q => decide (T q = t)) L)) ∧ Below w.heap.size w w' := by
  have hr := h.lt
  obtain ⟨w1, hw1⟩ : ∃ W, w.alloc (.cells #[.int .i64 t.1, .int .i64 t.2.1, .int .i64 t.2.2.1, .int .i64 t.2.2.2] 26) = W := ⟨_, rfl⟩
  have hb : Below w.heap.size w w1 := by rw [← hw1]; exact (Below.refl _ _).alloc (Nat.le_refl _) _
  have hx0 : w1.heap[w.heap.size]? = some (.cells #[.int .i64 t.1, .int .i64 t.2.1, .int .i64 t.2.2.1, .int .i64 t.2.2.2] 26 (0, 0)) := by rw [← hw1]; exact heap_new _ _ _ rfl
  have ht : TileAt w1 w.heap.size t := ⟨cell_of_row w1 _ 0 _ _ _ hx0, cell_of_row w1 _ 1 _ _ _ hx0, cell_of_row w1 _ 2 _ _ _ hx0, cell_of_row w1 _ 3 _ _ _ hx0⟩
  have h1 := h.below hb
  have HI := Lib.hid (kindex_any (cb := #[.pointer (some ⟨w.heap.size, 0, none⟩)]) (p := fun q => decide (T q = t)) h1 rfl (fun W x hW hx => kask_any (((hT x hx).below hb).below hW) (ht.below hW)))
  have HB := Lib.hid hb
  have HW1 := Lib.hid hw1
  have c0 := h1.1
  clear h hT hx0 ht h1 hb hw1
  unfold tlV
  go_enter Tryz.func22, Tryz.ntmps22
  go_wp2_with (rw [HW1.out])
  go_wp2_with fail
  refine HI.out.mono ?_
  rintro e w2 ⟨rfl, hb2⟩
  have HB2 := Lib.hid (HB.out.trans (hb2.mono HB.out.size))
  clear hb2
  go_wp2
  go_ret
  exact ⟨rfl, HB2.out⟩
end Go.Proofs.YtjimcjhgjfhbiaaGreat
/- Rows of bytes in memory; contract of bytes.Clone. -/
namespace Go.Proofs.YtjimcjhgjfhbiaaGreat
open Go.RowKit Go.Lib

def byV (l : List Int) : List Value := l.map (Value.int .u8)
theorem byV_len (l : List Int) : (byV l).length = l.length := List.length_map ..
theorem byV_get (l : List Int) (i : Nat) (h : i < l.length) : (byV l)[i]? = some (.int .u8 (l.getD i 0)) := by
  unfold byV
  rw [List.getElem?_map, List.getElem?_eq_getElem h, List.getD_eq_getElem?_getD, List.getElem?_eq_getElem h]; rfl
theorem byV_cell (l : List Int) : ∀ u ∈ byV l, u.oneCell' = true := fun u hu => by
  obtain ⟨x, _, rfl⟩ := List.mem_map.1 hu; rfl
/-- In w a slice's address leads to bytes. -/
def BytesAt (w : World) (ao : Option Addr) (l : List Int) : Prop :=
  0 < l.length → ∃ b off, ao = some ⟨b, off, none⟩ ∧ b < w.heap.size ∧ ∀ i, i < l.length → w.cell? ⟨b, off + i, none⟩ = some (.int .u8 (l.getD i 0))
theorem BytesAt.below {w w' : World} {ao : Option Addr} {l : List Int} (h : BytesAt w ao l) (hb : Below w.heap.size w w') : BytesAt w' ao l := fun h0 => by
  obtain ⟨b, off, e, hlt, hc⟩ := h h0
  exact ⟨b, off, e, Nat.lt_of_lt_of_le hlt hb.size, fun i hi => by rw [hb.cell (p := ⟨b, _, none⟩) hlt]; exact hc i hi⟩
theorem bytes_news {w : World} {ao : Option Addr} {l : List Int} (h : BytesAt w ao l) : ∀ ad, ao = some ad → ∀ j u, (byV l)[j]? = some u → w.cell? (ad.add j) = some u := fun ad e j u hj => by
  have hjl : j < l.length := by have := (List.getElem?_eq_some_iff.1 hj).1; rwa [byV_len] at this
  obtain ⟨b, off, e2, _, hc⟩ := h (by omega)
  rw [e2] at e
  cases e
  rw [byV_get l j hjl] at hj
  cases hj
  have hadd : (⟨b, off, none⟩ : Addr).add j = ⟨b, off + j, none⟩ := by unfold Addr.add; split <;> simp_all
  rw [hadd]
  exact hc j hjl
theorem info_u8 : (Tryz.prog.info? 5).map (fun i => (i.zero, i.size, i.bytes)) = some (some (.int .u8 0), 1, 1) := by kernel_rfl
set_option maxRecDepth 100000 in
set_option maxHeartbeats 1000000 in
theorem bclone_any {w : World} {n c : Nat} {ao : Option Addr} {l : List Int} (h : BytesAt w ao l) (hl : l.length = n) (hz : ao = none → n = 0 ∧ c = 0) (hn : n ≤ 1000000) :
    Calls Tryz.prog 23 #[.slice ao n c] w fun e w' => ∃ v, e = .returned v ∧ w'.ownsRow w.heap.size 5 1 v n (byV l) ∧ Below w.heap.size w w' := by
  obtain ⟨i0, hi, hz0, hz1, hz2⟩ := info_parts info_u8
  cases ao with
  | none =>
    obtain ⟨rfl, rfl⟩ := hz rfl
    obtain rfl : l = [] := List.eq_nil_of_length_eq_zero hl
    clear h hz
    have heq : ∀ W : World, (Go.binOp .eql 29 (.slice none 0 0) (.slice none 0 0)).run Tryz.prog W = .ok (.bool true) W := fun _ => by kernel_rfl
    go_enter Tryz.func23, Tryz.ntmps23
    go_wp2
    go_ret
    exact ⟨_, rfl, ⟨rfl, .inl ⟨rfl, rfl⟩⟩, Below.refl _ _⟩
  | some ad =>
    have hb0 : Below w.heap.size w (w.alloc (.cells #[] 5)) := (Below.refl _ w).alloc (Nat.le_refl _) _
    obtain ⟨v', w', hr, h2, h3, _⟩ := run_append_own (P := Tryz.prog) (w.alloc (.cells #[] 5)) w.heap.size 29 29 5 i0 (.int .u8 0) 1 1 Tryz.underlying29 hi hz0 hz1 hz2 rfl (by decide) (.slice (some ⟨w.heap.size, 0, none⟩) 0 0) 0 [] (World.ownsRow_made w #[] 0 (Nat.le_refl _) (Nat.zero_le _) (by simp)) ad n c (byV l) (by rw [byV_len, hl, Nat.mul_one]) (bytes_news (h.below hb0) ad rfl) (byV_cell l) (by unfold maxLen; omega) (by omega) (by simp)
    rw [Nat.zero_add, List.nil_append] at h2
    have HB : Hid (Below w.heap.size w w') := hb0.grown h3 (by simp) (by intro k hk; simp [Value.ownBlock] at hk; omega)
    have HO := Lib.hid h2
    have HR := Lib.hid hr
    clear h hz hr h2 h3 hb0
    have heq : ∀ W : World, (Go.binOp .eql 29 (.slice (some ad) n c) (.slice none 0 0)).run Tryz.prog W = .ok (.bool false) W := fun _ => by kernel_rfl
    go_enter Tryz.func23, Tryz.ntmps23
    go_wp2_with (at_builtin; refine wpList_append_run _ rfl (.tmp 5) (.tmp 6) 29 29 rfl _ _ rfl rfl _ _ HR.out ?_)
    go_ret
    exact ⟨_, rfl, HO.out, HB.out⟩
end Go.Proofs.YtjimcjhgjfhbiaaGreat
