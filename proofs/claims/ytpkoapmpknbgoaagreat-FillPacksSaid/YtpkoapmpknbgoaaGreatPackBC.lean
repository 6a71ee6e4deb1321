/- Joined: Lex, Lex2, Lex3, Kit, Kit2, NrU, SlAq, SlBq, DfA, NrO, AwA, BdA: contracts and plain laws, each with its own heading below. -/
import Derived.Orders
import Derived.Still
import Derived.Tactics
import Derived.KernelRfl
import Derived.WalkKit
import Derived.WalkSpells
import Derived.WalkLawsBesides
import Derived.Handy
import Derived.Lib.Hide
import Derived.BigQuiet
import Derived.Deep.QuietTactic
import Derived.Deep.AppendLies
import Derived.Deep.LoopGhost
import Derived.Sort.Row
import Derived.Test.YtpkoapmpknbgoaaGreatPackBB
import Derived.Lib.Walk
import Derived.Lib.SliceRun
import Derived.Lib.SlicesCompact
import Derived.Deep.Draws
import Derived.Laws.CopyOwn
import Derived.Lib.OwnBridge
import Derived.OwnWalk
import Derived.Deep.RegionLaw
import Derived.Maps.AppendAt
import Derived.Laws.OwnMore
import Derived.Lib.AppendZeros
set_option maxRecDepth 1000000
set_option maxHeartbeats 4000000
namespace Go.Proofs.YtpkoapmpknbgoaaGreat
section
open Go
def CS {α : Type} (m : Sem α) : Prop := ∀ P w x w', m.run P w = .ok x w' -> w' = w /\ ∀ w2, m.run P w2 = .ok x w2
def RS {α : Type} (m : Sem α) : Prop := ∀ P w x w', m.run P w = .ok x w' -> w' = w
def NS {α : Type} (m : Sem α) : Prop := ∀ P w x w', m.run P w ≠ .ok x w'
theorem CS.rs {α : Type} {m : Sem α} (h : CS m) : RS m := fun P w x w' e => (h P w x w' e).1
theorem NS.cs {α : Type} {m : Sem α} (h : NS m) : CS m := fun P w x w' e => (h P w x w' e).elim
theorem NS.rs {α : Type} {m : Sem α} (h : NS m) : RS m := h.cs.rs
theorem CS_pure {α : Type} (a : α) : CS (pure a : Sem α) := fun P w x w' e => by
 have : (.ok a w : Result α) = .ok x w' := e;cases this; exact ⟨rfl, fun _ => rfl⟩
theorem CS_program : CS program := fun P w x w' e => by
 have : (.ok P w : Result Program) = .ok x w' := e;cases this; exact ⟨rfl, fun _ => rfl⟩
theorem NS_stuck {α : Type} (s : String) : NS (stuck s : Sem α) := fun P w x w' e => by
 have : (.halt (.stuck s) w : Result α) = .ok x w' := e;cases this
theorem NS_unsupported {α : Type} (u : Unsupported) : NS (unsupported u : Sem α) := fun P w x w' e => by
 have : (.halt (.unsupported u) w : Result α) = .ok x w' := e;cases this
theorem NS_goPanic {α : Type} (v : Value) : NS (goPanic v : Sem α) := fun P w x w' e => by
 have : (.halt (.panic v) w : Result α) = .ok x w' := e;cases this
theorem run_bind_ok {α β : Type} {m : Sem α} {f : α -> Sem β} {P : Program} {w w' : World} {x : β} (e : (m >>= f).run P w = .ok x w') :
  ∃ a w1, m.run P w = .ok a w1 /\ (f a).run P w1 = .ok x w' := by
 rw [Sem.run_bind] at e;cases h : m.run P w with
 | ok a w1 => rw [h] at e; exact ⟨a, w1, rfl, e⟩
 | halt h1 w1 => rw [h] at e; simp [Result.andThen] at e
theorem run_bind_mk {α β : Type} {m : Sem α} {f : α -> Sem β} {P : Program} {w w1 w' : World} {a : α} {x : β} (h : m.run P w = .ok a w1) (e : (f a).run P w1 = .ok x w') :
  (m >>= f).run P w = .ok x w' := by
 rw [Sem.run_bind, h]; exact e
theorem CS_bind {α β : Type} {m : Sem α} {f : α -> Sem β} (h : CS m) (hf : ∀ a, CS (f a)) : CS (m >>= f) := fun P w x w' e => by
 obtain ⟨a, w1, h1, h2⟩ := run_bind_ok e;obtain ⟨rfl, g1⟩ := h P w a w1 h1;obtain ⟨rfl, g2⟩ := hf a P _ x w' h2;exact ⟨rfl, fun w2 => run_bind_mk (g1 w2) (g2 w2)⟩
theorem RS_bind {α β : Type} {m : Sem α} {f : α -> Sem β} (h : RS m) (hf : ∀ a, RS (f a)) : RS (m >>= f) := fun P w x w' e => by
 obtain ⟨a, w1, h1, h2⟩ := run_bind_ok e;have := h P w a w1 h1;subst this;exact hf a P _ x w' h2
theorem NS_bind_left {α β : Type} {m : Sem α} {f : α -> Sem β} (h : NS m) : NS (m >>= f) := fun P w x w' e => by
 obtain ⟨a, w1, h1, _⟩ := run_bind_ok e;exact h P w a w1 h1
theorem NS_bind {α β : Type} {m : Sem α} {f : α -> Sem β} (hf : ∀ a, NS (f a)) : NS (m >>= f) := fun P w x w' e => by
 obtain ⟨a, w1, _, h2⟩ := run_bind_ok e;exact hf a P w1 x w' h2
theorem RS_load (a : Addr) (m : Mode) : RS (load a m) := fun P w x w' e => by
 unfold load at e;simp only [Sem.run] at e
 split at e
 ·cases e; rfl
 ·split at e
  ·cases e; rfl
  ·cases e
theorem NS_runtimePanic {α : Type} (r : RuntimeError) : NS (runtimePanic r : Sem α) := by
 unfold runtimePanic;refine NS_bind fun p => ?_
 cases r <;> simp only []
 case typeAssertion => exact NS_bind fun _ => NS_bind fun _ => NS_goPanic _
 case panicNil => exact NS_bind fun _ => NS_bind fun _ => NS_goPanic _
 all_goals exact NS_goPanic _
theorem NS_boundsPanic {α : Type} (k : IntKind) (x y : Int) (c : BoundsCode) : NS (boundsPanic k x y c : Sem α) := by
 unfold boundsPanic;dsimp only
 split
 ·exact NS_bind fun _ => NS_runtimePanic _
 ·exact NS_bind fun _ => NS_runtimePanic _
theorem CS_ite {α : Type} {c : Prop} [Decidable c] {a b : Sem α} (ha : CS a) (hb : CS b) : CS (if c then a else b) := by split <;> assumption
theorem CS_typeInfo (t : TypeId) : CS (typeInfo t) := CS_bind CS_program fun p => by split <;> first | exact CS_pure _ | exact (NS_stuck _).cs
theorem CS_underlying (t : TypeId) : CS (underlying t) := CS_bind CS_program fun p => by split <;> first | exact CS_pure _ | exact (NS_stuck _).cs
theorem CS_sizeOf (t : TypeId) : CS (sizeOf t) := CS_bind (CS_typeInfo t) fun _ => CS_pure _
theorem CS_zeroValue (t : TypeId) : CS (zeroValue t) := CS_bind (CS_typeInfo t) fun _ => by split <;> first | exact CS_pure _ | exact (NS_unsupported _).cs
theorem CS_isAgg (t : TypeId) : CS (isAgg t) := CS_bind (CS_underlying t) fun d => by split <;> exact CS_pure _
theorem CS_part (t : TypeId) (cs : Array Value) (off : Nat) : CS (part t cs off) := by
 unfold part;refine CS_bind (CS_isAgg t) fun b => ?_
 refine CS_ite (CS_bind (CS_sizeOf t) fun _ => CS_pure _) ?_
 split
 ·exact CS_pure _
 ·exact (NS_stuck _).cs
theorem CS_asIntOf (v : Value) : CS (asIntOf v) := by unfold asIntOf; split <;> first | exact CS_pure _ | exact (NS_unsupported _).cs | exact (NS_stuck _).cs
theorem CS_asBool (v : Value) : CS (asBool v) := by unfold asBool; split <;> first | exact CS_pure _ | exact (NS_stuck _).cs
theorem CS_asAgg (v : Value) : CS (asAgg v) := by unfold asAgg; split <;> first | exact CS_pure _ | exact (NS_stuck _).cs
theorem CS_asAddr (v : Value) : CS (asAddr v) := by unfold asAddr; split <;> first | exact CS_pure _ | exact (NS_runtimePanic _).cs | exact (NS_stuck _).cs
theorem CS_sureAddr (v : Value) : CS (Instr.sureAddr v) := by unfold Instr.sureAddr; split <;> first | exact CS_pure _ | exact (NS_stuck _).cs
theorem RS_shape (r : Nat) : RS (shape r) := fun P w x w' e => by
 have : (.ok (w.shape? r) w : Result _) = .ok x w' := e;cases this; rfl
theorem RS_getObj (r : Nat) : RS (getObj r) := fun P w x w' e => by
 unfold getObj at e;simp only [Sem.run] at e
 split at e
 ·cases e
 ·cases e; rfl
 ·cases e
theorem RS_viewAt (r : Nat) : RS (viewAt r) := by
 unfold viewAt;refine RS_bind (RS_shape r) fun s => ?_
 split
 ·exact (CS_pure _).rs
 ·refine RS_bind (RS_getObj r) fun o => ?_
  split <;> exact (CS_pure _).rs
theorem RS_noView (a : Addr) : RS (noView a) := by
 unfold noView;refine RS_bind (RS_viewAt _) fun s => ?_
 split
 ·exact (NS_unsupported _).rs
 ·exact (CS_pure _).rs
theorem RS_byteOf (a : Addr) : RS (byteOf a) := by
 unfold byteOf;dsimp only
 split
 ·exact (CS_pure _).rs
 ·refine RS_bind CS_program.rs fun p => RS_bind (RS_noView a) fun _ => RS_bind (RS_shape _) fun s => ?_
  split
  ·split
   ·exact (CS_pure _).rs
   ·split
    ·exact (CS_pure _).rs
    ·exact (NS_stuck _).rs
  ·exact (NS_stuck _).rs
theorem RS_partAt (a : Addr) (c b : Nat) : RS (partAt a c b) := by
 unfold partAt;exact RS_bind (RS_byteOf a) fun x => RS_bind (RS_byteOf _) fun y => (CS_pure _).rs
theorem RS_fieldPlace (a : Addr) (f : Field) : RS (fieldPlace a f) := by
 unfold fieldPlace;refine RS_bind (CS_sizeOf _).rs fun n => ?_
 split
 ·exact RS_partAt _ _ _
 ·exact (CS_pure _).rs
theorem RS_loadCellsFrom (a : Addr) : ∀ (n i : Nat) (acc : Array Value), RS (loadCellsFrom a i n acc)
 | 0, _, _ => (CS_pure _).rs
 | n + 1, i, _ => RS_bind (RS_load _ _) fun _ => RS_loadCellsFrom a n (i + 1) _
theorem RS_loadVar (t : TypeId) (a : Addr) : RS (loadVar t a) := by
 unfold loadVar;refine RS_bind (CS_isAgg t).rs fun b => ?_
 split
 ·refine RS_bind (CS_sizeOf t).rs fun n => RS_bind (RS_loadCellsFrom _ _ _ _) fun _ => (CS_pure _).rs
 ·exact RS_load _ _
theorem RS_loadAt (t : TypeId) (v : Value) : RS (Instr.loadAt t v) := RS_bind (CS_sureAddr v).rs fun _ => RS_loadVar _ _
theorem RS_fieldAt (s : TypeId) (v : Value) (f : Nat) : RS (Instr.fieldAt s v f) := by
 unfold Instr.fieldAt;refine RS_bind (CS_underlying s).rs fun d => ?_
 split
 ·split
  ·exact RS_bind (CS_sureAddr v).rs fun _ => RS_bind (RS_fieldPlace _ _) fun _ => (CS_pure _).rs
  ·exact (NS_stuck _).rs
 ·exact (NS_stuck _).rs
theorem CS_indexAt (t : TypeId) (x i : Value) : CS (Instr.indexAt t x i) := by
 unfold Instr.indexAt;refine CS_bind (CS_asIntOf i) fun ki => ?_
 obtain ⟨k, i⟩ := ki;dsimp only;refine CS_bind (CS_underlying t) fun d => ?_
 split
 ·refine CS_bind (CS_sureAddr _) fun q => CS_bind (CS_pure _) fun q => CS_bind (CS_underlying t) fun d2 => ?_
  split
  ·split
   ·exact CS_bind (CS_sizeOf _) fun _ => CS_pure _
   ·split <;> (split <;> first | exact (NS_unsupported _).cs | exact (NS_boundsPanic _ _ _ _).cs)
  ·exact (NS_boundsPanic _ _ _ _).cs
 ·refine CS_bind (CS_pure _) fun q => CS_bind (CS_underlying t) fun d2 => ?_
  split
  ·split
   ·exact CS_bind (CS_sizeOf _) fun _ => CS_pure _
   ·split <;> (split <;> first | exact (NS_unsupported _).cs | exact (NS_boundsPanic _ _ _ _).cs)
  ·exact (NS_boundsPanic _ _ _ _).cs
 ·exact (NS_bind_left (NS_stuck _)).cs
theorem CS_field (t : TypeId) (x : Value) (f : Nat) : CS (Instr.field t x f) := by
 unfold Instr.field;refine CS_bind (CS_underlying t) fun d => ?_
 split
 ·split
  ·exact CS_bind (CS_asAgg x) fun _ => CS_part _ _ _
  ·exact (NS_stuck _).cs
 ·exact (NS_stuck _).cs
theorem CS_index (t : TypeId) (x i : Value) : CS (Instr.index t x i) := by
 unfold Instr.index;refine CS_bind (CS_asIntOf i) fun ki => ?_
 obtain ⟨k, i⟩ := ki;dsimp only;refine CS_bind (CS_underlying t) fun d => ?_
 split
 ·split
  ·exact CS_bind (CS_sizeOf _) fun _ => CS_part _ _ _
  ·exact (NS_boundsPanic _ _ _ _).cs
 ·split
  ·exact CS_pure _
  ·exact (NS_boundsPanic _ _ _ _).cs
 ·exact (NS_stuck _).cs
theorem CS_extract (x : Value) (i : Nat) : CS (Instr.extract x i) := by
 unfold Instr.extract
 split
 ·split
  ·exact CS_pure _
  ·exact (NS_stuck _).cs
 ·exact (NS_stuck _).cs
theorem CS_listMapM {α β : Type} (f : α -> Sem β) (hf : ∀ a, CS (f a)) : ∀ l : List α, CS (l.mapM f)
 | [] => by rw [List.mapM_nil]; exact CS_pure _
 | a :: l => by rw [List.mapM_cons]; exact CS_bind (hf a) fun _ => CS_bind (CS_listMapM f hf l) fun _ => CS_pure _
theorem CS_build (t : TypeId) (parts : Array (Nat × Value)) : CS (Instr.build t parts) := by
 unfold Instr.build;refine CS_bind (CS_zeroValue t) fun z => CS_bind (CS_underlying t) fun d => ?_
 split
 ·refine CS_bind ?_ fun places => ?_
  ·rw [Array.mapM_eq_mapM_toList]
   exact CS_bind (CS_listMapM _ (fun f => CS_bind (CS_sizeOf _) fun _ => CS_pure _) _) fun _ => CS_pure _
  ·split
   ·exact CS_pure _
   ·exact (NS_stuck _).cs
 ·refine CS_bind (CS_sizeOf _) fun n => ?_
  split
  ·exact CS_pure _
  ·exact (NS_stuck _).cs
 ·exact (NS_stuck _).cs
theorem CS_intArith (op : BinOp) (k : IntKind) (x y : Int) : CS (Op.intArith op k x y) := by
 unfold Op.intArith; split <;> first | exact CS_pure _ | exact (NS_stuck _).cs
theorem CS_intDiv (op : BinOp) (k : IntKind) (x y : Int) : CS (Op.intDiv op k x y) := by
 unfold Op.intDiv;refine CS_ite (NS_runtimePanic _).cs ?_
 split <;> first | exact CS_pure _ | exact (NS_stuck _).cs
theorem CS_intBits (op : BinOp) (k : IntKind) (x y : Int) : CS (Op.intBits op k x y) := by
 unfold Op.intBits; dsimp only; split <;> first | exact CS_pure _ | exact (NS_stuck _).cs
theorem CS_intCmp (op : BinOp) (x y : Int) : CS (Op.intCmp op x y) := by
 unfold Op.intCmp; split <;> first | exact CS_pure _ | exact (NS_stuck _).cs
theorem CS_shift (op : BinOp) (k : IntKind) (x : Int) (yk : IntKind) (y : Int) : CS (Op.shift op k x yk y) := by
 unfold Op.shift;refine CS_ite (NS_runtimePanic _).cs ?_;dsimp only
 split <;> first | exact CS_pure _ | exact (NS_stuck _).cs
theorem CS_stringOp (op : BinOp) (x y : ByteArray) : CS (Op.stringOp op x y) := by
 unfold Op.stringOp;dsimp only
 split
 ·exact CS_ite (NS_unsupported _).cs (CS_pure _)
 all_goals first | exact CS_pure _ | exact (NS_stuck _).cs
theorem CS_unary (op : UnOp) (x : Value) : CS (Op.unary op x) := by
 unfold Op.unary
 split <;> first | exact CS_intArith _ _ _ _ | exact CS_intBits _ _ _ _ | exact CS_pure _ | exact (NS_unsupported _).cs | exact (NS_stuck _).cs
theorem CS_sliceBound (x : Value) (y : Nat) (c : BoundsCode) : CS (Instr.sliceBound x y c) := by
 unfold Instr.sliceBound;refine CS_bind (CS_asIntOf x) fun q => ?_
 obtain ⟨k, i⟩ := q;exact CS_ite (CS_pure _) (NS_boundsPanic _ _ _ _).cs
theorem CS_sliceBounds (b : Bool) (len cap : Nat) (lo hi mx : Option Value) : CS (Instr.sliceBounds b len cap lo hi mx) := by
 unfold Instr.sliceBounds;cases mx <;> cases hi <;> cases lo <;> simp only [] <;>
  repeat' (first | exact CS_pure _ | exact (NS_stuck _).cs | exact (NS_bind_left (NS_stuck _)).cs | exact CS_sliceBound _ _ _ | (refine CS_bind ?_ fun _ => ?_))
theorem CS_slice (t : TypeId) (x : Value) (lo hi mx : Option Value) : CS (Instr.slice t x lo hi mx) := by
 unfold Instr.slice;refine CS_bind (CS_underlying t) fun d => ?_
 split
 ·split
  ·exact (NS_bind_left (NS_stuck _)).cs
  ·exact CS_bind (CS_sliceBounds _ _ _ _ _ _) fun _ => CS_pure _
 ·exact CS_bind (CS_sliceBounds _ _ _ _ _ _) fun _ => CS_bind (CS_sizeOf _) fun _ => CS_pure _
 ·refine CS_bind (CS_asAddr _) fun _ => CS_bind (CS_underlying _) fun _ => ?_
  split
  ·exact CS_bind (CS_sliceBounds _ _ _ _ _ _) fun _ => CS_bind (CS_sizeOf _) fun _ => CS_pure _
  ·exact (NS_stuck _).cs
 ·exact (NS_stuck _).cs
theorem CS_sliceAt (t : TypeId) (x : Value) (lo hi mx : Option Value) : CS (Instr.sliceAt t x lo hi mx) := by
 unfold Instr.sliceAt;refine CS_bind (CS_underlying t) fun d => ?_
 split
 ·exact CS_bind (CS_sureAddr _) fun _ => CS_bind (CS_sliceBounds _ _ _ _ _ _) fun _ => CS_bind (CS_sizeOf _) fun _ => CS_pure _
 ·exact CS_slice _ _ _ _ _
def gv : Value -> Bool
 | .int _ _ | .string _ | .bool _ | .slice _ _ _ => true
 | _ => false
def gp : Value -> Bool
 | .pointer (some _) => true
 | v => gv v
theorem CS_equalIn (n : Nat) (t : TypeId) (x y : Value) (hx : gv x = true) (hy : gv y = true) : CS (Op.equalIn n t x y) := by
 cases n with
 | zero => exact (NS_unsupported _).cs
 | succ n =>
  unfold Op.equalIn;refine CS_bind (CS_underlying t) fun d => ?_
  split <;> first
   | exact CS_pure _
   | exact CS_ite (CS_pure _) (NS_stuck _).cs
   | exact (NS_stuck _).cs
   | (simp [gv] at hx; done)
   | (simp [gv] at hy; done)
theorem CS_binOp (op : BinOp) (t : TypeId) (x y : Value) (hx : gv x = true) (hy : gv y = true) : CS (binOp op t x y) := by
 have heq := CS_equalIn Op.maxDepth t x y hx hy;have e1 : CS (do pure (.bool (<- Op.equal t x y)) : Sem Value) := CS_bind heq fun _ => CS_pure _
 have e2 : CS (do pure (.bool (!(<- Op.equal t x y))) : Sem Value) := CS_bind heq fun _ => CS_pure _
 unfold binOp;cases x <;> simp [gv] at hx <;> cases y <;> simp [gv] at hy <;> cases op <;> dsimp only <;> first
  | exact e1
  | exact e2
  | exact CS_shift _ _ _ _ _
  | exact CS_stringOp _ _ _
  | exact (NS_stuck _).cs
  | (refine CS_ite (NS_stuck _).cs ?_; first | exact CS_intArith _ _ _ _ | exact CS_intDiv _ _ _ _ | exact CS_intBits _ _ _ _ | exact CS_intCmp _ _ _)
theorem CS_eqGuard (op : BinOp) (t : TypeId) (x y : Operand) (a b : Value) (ha : gv a = true) : CS (eqGuard op t x y a b) := by
 unfold eqGuard;cases a <;> simp [gv] at ha <;> cases op <;> first | exact CS_pure _ | (cases b <;> exact CS_pure _)
theorem CS_min2 (x y : Value) (hx : gv x = true) (hy : gv y = true) : CS (Builtin.min2 x y) := by
 cases x <;> simp [gv] at hx <;> cases y <;> simp [gv] at hy <;> unfold Builtin.min2 <;> first
  | exact CS_pure _
  | exact CS_bind (CS_stringOp _ _ _) fun _ => CS_bind (CS_asBool _) fun _ => CS_pure _
  | exact (NS_stuck _).cs
theorem CS_max2 (x y : Value) (hx : gv x = true) (hy : gv y = true) : CS (Builtin.max2 x y) := by
 cases x <;> simp [gv] at hx <;> cases y <;> simp [gv] at hy <;> unfold Builtin.max2 <;> first
  | exact CS_pure _
  | exact CS_bind (CS_stringOp _ _ _) fun _ => CS_bind (CS_asBool _) fun _ => CS_pure _
  | exact (NS_stuck _).cs
theorem CS_len (ts : Array TypeId) (t : TypeId) (args : Array Value) (h : ∀ v, args[0]? = some v -> gv v = true) : CS (Builtin.len_ ts t args) := by
 unfold Builtin.len_
 split
 ·rename_i u x h2
  have hx := h x (Prod.mk.inj h2).2;clear h2;refine CS_bind (CS_underlying _) fun d => ?_
  cases x <;> simp [gv] at hx <;> split <;> first
   | exact CS_pure _
   | exact (NS_stuck _).cs
   | contradiction
   | (refine CS_bind (CS_underlying _) fun d => ?_; split <;> first | exact CS_pure _ | exact (NS_stuck _).cs)
 ·exact (NS_stuck _).cs
theorem CS_cap (ts : Array TypeId) (t : TypeId) (args : Array Value) (h : ∀ v, args[0]? = some v -> gv v = true) : CS (Builtin.cap_ ts t args) := by
 unfold Builtin.cap_
 split
 ·rename_i u x h2
  have hx := h x (Prod.mk.inj h2).2;clear h2;refine CS_bind (CS_underlying _) fun d => ?_
  cases x <;> simp [gv] at hx <;> split <;> first
   | exact CS_pure _
   | exact (NS_stuck _).cs
   | contradiction
   | (refine CS_bind (CS_underlying _) fun d => ?_; split <;> first | exact CS_pure _ | exact (NS_stuck _).cs)
 ·exact (NS_stuck _).cs
def CV (m : Sem Next) : Prop := ∀ P w x w', m.run P w = .ok x w' -> (∃ v, x = .value v) /\ w' = w /\ ∀ w2, m.run P w2 = .ok x w2
def RV (m : Sem Next) : Prop := ∀ P w x w', m.run P w = .ok x w' -> (∃ v, x = .value v) /\ w' = w
theorem CV.rv {m : Sem Next} (h : CV m) : RV m := fun P w x w' e => ⟨(h P w x w' e).1, (h P w x w' e).2.1⟩
theorem CV_of {s : Sem Value} (h : CS s) : CV (do pure (.value (<- s))) := fun P w x w' e => by
 obtain ⟨a, w1, h1, h2⟩ := run_bind_ok e;have h3 : (.ok (.value a) w1 : Result Next) = .ok x w' := h2;cases h3;obtain ⟨rfl, g⟩ := h P w a _ h1;exact ⟨⟨a, rfl⟩, rfl, fun w2 => run_bind_mk (g w2) rfl⟩
theorem RV_of {s : Sem Value} (h : RS s) : RV (do pure (.value (<- s))) := fun P w x w' e => by
 obtain ⟨a, w1, h1, h2⟩ := run_bind_ok e;have h3 : (.ok (.value a) w1 : Result Next) = .ok x w' := h2;cases h3;exact ⟨⟨a, rfl⟩, h P w a _ h1⟩
theorem CV_pure (v : Value) : CV (pure (.value v)) := fun P w x w' e => by
 have h3 : (.ok (.value v) w : Result Next) = .ok x w' := e;cases h3;exact ⟨⟨v, rfl⟩, rfl, fun _ => rfl⟩
theorem CV_bind {α : Type} {s : Sem α} {f : α -> Sem Next} (h : CS s) (hf : ∀ a, CV (f a)) : CV (s >>= f) := fun P w x w' e => by
 obtain ⟨a, w1, h1, h2⟩ := run_bind_ok e;obtain ⟨rfl, g1⟩ := h P w a w1 h1;obtain ⟨hv, rfl, g2⟩ := hf a P _ x w' h2;exact ⟨hv, rfl, fun w2 => run_bind_mk (g1 w2) (g2 w2)⟩
def kindOf : Op -> Nat
 | .move _ | .assign _ | .pick .. | .indexAddr .. | .field .. | .index .. | .extract .. | .build .. | .unOp .. | .slice .. | .binOp .. | .nilCheck _ => 0
 | .call c => match c.callee with
  | .builtin .len | .builtin .cap => if c.args.size = 1 then 0 else 2
  | .builtin .min | .builtin .max => if c.args.size = 2 then 0 else 2
  | _ => 2
 | .load .. | .fieldAddr .. => 1
 | _ => 2
def asksVals : Op -> Bool
 | .binOp .. | .nilCheck _ | .call _ => true
 | _ => false
def goodVals (ρ : Operand -> Value) : Op -> Bool
 | .binOp _ _ x y _ => gv (ρ x) && gv (ρ y)
 | .nilCheck x => gp (ρ x)
 | .call c => match c.callee with
  | .builtin .len | .builtin .cap | .builtin .min | .builtin .max => c.args.all fun x => gv (ρ x)
  | _ => true
 | _ => true
theorem RV_kind1 {ρ : Operand -> Value} {o : Oper} (h : kindOf o.op = 1) : RV (execOp ρ o) := by
 obtain ⟨dst, op, type, pos, after, guard⟩ := o;cases op <;> simp [kindOf] at h <;> unfold execOp
 case load t a => exact RV_of (RS_loadAt _ _)
 case fieldAddr t x f => exact RV_of (RS_fieldAt _ _ _)
 case call c => split at h <;> (try split at h) <;> simp at h
theorem all2 {p : Operand -> Bool} {args : Array Operand} (h : args.all p = true) : ∀ x ∈ args.toList, p x = true := fun x hx => by
 rw [Array.all_eq_true_iff_forall_mem] at h;exact h x (by simpa using hx)
theorem CV_call (ρ : Operand -> Value) (c : Call) (t : TypeId) (hk : kindOf (.call c) = 0) (hg : goodVals ρ (.call c) = true) :
  CV (do let d <- resolve ρ c t; invoke d.target d.args) := by
 obtain ⟨callee, args, ts⟩ := c;cases callee with
 | value f => simp [kindOf] at hk
 | invoke r m => simp [kindOf] at hk
 | builtin b =>
  have hres : ∀ (s : Sem Next), (do let d <- (pure { target := .builtin b ts t (args.map fun | .const _ => true | _ => false), args := args.map ρ } : Sem Deferred); invoke d.target d.args) = s -> CV s -> CV (do let d <- (pure { target := .builtin b ts t (args.map fun | .const _ => true | _ => false), args := args.map ρ } : Sem Deferred); invoke d.target d.args) := fun s e h => e ▸ h
  show CV (do let d <- (pure { target := .builtin b ts t (args.map fun | .const _ => true | _ => false), args := args.map ρ } : Sem Deferred); invoke d.target d.args);have hone : ∀ v, (args.map ρ)[0]? = some v -> (args.all fun x => gv (ρ x)) = true -> gv v = true := fun v hv ha => by
   rw [Array.getElem?_map] at hv;cases h0 : args[0]? with
   | none => simp [h0] at hv
   | some x =>
    simp [h0] at hv;subst hv;exact all2 (p := fun x => gv (ρ x)) ha x (by simpa using Array.mem_of_getElem? h0)
  have htwo : args.size = 2 -> (args.all fun x => gv (ρ x)) = true -> ∃ u v, (args.map ρ).toList = [u, v] /\ gv u = true /\ gv v = true := fun hs ha => by
   obtain ⟨l⟩ := args
   match l, hs with
   | [x, y], _ =>
    have := all2 (p := fun x => gv (ρ x)) ha;exact ⟨ρ x, ρ y, by simp, this x (by simp), this y (by simp)⟩
  cases b <;> simp [kindOf] at hk <;> simp only [goodVals] at hg
  case len => exact CV_of (CS_len ts t _ fun v hv => hone v hv hg)
  case cap => exact CV_of (CS_cap ts t _ fun v hv => hone v hv hg)
  case min =>
   obtain ⟨u, v, huv, hu, hv⟩ := htwo hk hg;refine CV_of (s := Builtin.min_ ts t (args.map ρ)) ?_;unfold Builtin.min_;rw [huv];simp only [List.foldlM_cons, List.foldlM_nil];exact CS_bind (CS_min2 _ _ hu hv) fun _ => CS_pure _
  case max =>
   obtain ⟨u, v, huv, hu, hv⟩ := htwo hk hg;refine CV_of (s := Builtin.max_ ts t (args.map ρ)) ?_;unfold Builtin.max_;rw [huv];simp only [List.foldlM_cons, List.foldlM_nil];exact CS_bind (CS_max2 _ _ hu hv) fun _ => CS_pure _
theorem CV_kind0 {ρ : Operand -> Value} {o : Oper} (h : kindOf o.op = 0) (hg : goodVals ρ o.op = true) : CV (execOp ρ o) := by
 obtain ⟨dst, op, type, pos, after, guard⟩ := o;cases op
 case call c => exact CV_call ρ c type h hg
 case nilCheck x =>
  unfold execOp;simp only [goodVals] at hg;dsimp only;generalize ρ x = v at hg ⊢;cases v <;> first | exact CV_pure _ | (simp [gp, gv] at hg; done) | (rename_i p; cases p <;> first | exact CV_pure _ | (simp [gp, gv] at hg; done))
 case binOp op t x y u =>
  unfold execOp;simp only [goodVals, Bool.and_eq_true] at hg;exact CV_of (CS_bind (CS_eqGuard _ _ _ _ _ _ hg.1) fun _ => CS_binOp _ _ _ _ hg.1 hg.2)
 case move x => exact CV_pure _
 case assign x => exact CV_pure _
 case pick c a b =>
  unfold execOp;exact CV_bind (CS_asBool _) fun _ => CV_pure _
 case indexAddr t x i => exact CV_of (CS_indexAt _ _ _)
 case field t x f => exact CV_of (CS_field _ _ _)
 case index t x i => exact CV_of (CS_index _ _ _)
 case extract x i => exact CV_of (CS_extract _ _)
 case build t ps => exact CV_of (CS_build _ _)
 case unOp op t x => exact CV_of (CS_unary _ _)
 case slice t x lo hi mx => exact CV_of (CS_sliceAt _ _ _ _ _)
 all_goals simp [kindOf] at h
def Only (K : Act -> World -> Prop) : Exit -> Act -> World -> Prop
 | .normal, a, w => K a w
 | _, _, _ => False
theorem Only.lets {K : Act -> World -> Prop} : ¬ LetsOut (Only K) := fun ⟨_, _, h⟩ => h
section
variable {P : Program} {ops : Array Oper} {K : Act -> World -> Prop}
def stepG (P : Program) (ops : Array Oper) (i : Nat) (next : Act -> World -> Prop) (a : Act) (w : World) : Prop :=
 match ops[i]? with
 | none => False
 | some o => if Region.wanted o (yielded ops a.tmps) then goodVals a.eval o.op = true /\ o.wp P a w next (Only fun _ _ => False) else next (a.put o.dst undef) w
theorem only_wp {o : Oper} {a : Act} {w : World} {next : Act -> World -> Prop} {L : Act -> World -> Prop} (h : o.wp P a w next (Only fun _ _ => False)) : o.wp P a w next (Only L) := by
 unfold Oper.wp at *;generalize (execOp a.eval o).run P w = r at *;cases r with
 | ok n w' =>
  cases n <;> simp only [Oper.upon] at h ⊢
  case enter f args =>
   refine Calls.mono h fun e w'' he => ?_
   cases e with
   | returned v => exact he
   | panicked c => exact he
   | outgrown => exact (Only.lets he).elim
  all_goals exact h
 | halt x w' =>
  cases x <;> simp only [Oper.upon] at h ⊢
  case panic v => exact h
theorem stepG_mono {i : Nat} {n n' : Act -> World -> Prop} {a : Act} {w : World} (hn : ∀ a w, n a w -> n' a w) (h : stepG P ops i n a w) : stepG P ops i n' a w := by
 unfold stepG at *
 split
 ·rename_i ho; simp only [ho] at h
 ·rename_i o ho
  simp only [ho] at h
  split
  ·rename_i hw; simp only [hw, if_true] at h; exact ⟨h.1, Oper.wp_mono hn h.2⟩
  ·rename_i hw; simp only [hw] at h; exact hn _ _ h
theorem stepG_wpOp {i : Nat} {n : Act -> World -> Prop} {a : Act} {w : World} (h : stepG P ops i n a w) : wpOp P ops (Only K) i n a w := by
 unfold stepG at h;unfold wpOp
 split
 ·rename_i ho; simp only [ho] at h
 ·rename_i o ho
  simp only [ho] at h
  split
  ·rename_i hw; simp only [hw, if_true] at h; exact .inl (only_wp h.2)
  ·rename_i hw; simp only [hw] at h; exact h
theorem wp_out {o : Oper} {a : Act} {w : World} {next : Act -> World -> Prop} (h : o.wp P a w next (Only fun _ _ => False)) :
  ∃ a1 w1 v, next a1 w1 /\ a1.tmps = (a.put o.dst v).tmps := by
 unfold Oper.wp at h;generalize (execOp a.eval o).run P w = r at h;cases r with
 | ok n w' =>
  cases n <;> simp only [Oper.upon] at h
  case value v => exact ⟨_, _, v, h, rfl⟩
  case skip => exact ⟨_, _, undef, h, rfl⟩
  case defer d => exact ⟨_, _, undef, h, by cases o.dst <;> rfl⟩
  case enter f args =>
   obtain ⟨e, w'', fr, hR, _⟩ := h [];cases e with
   | returned v => exact ⟨_, _, v, hR, rfl⟩
   | panicked c => exact hR.elim
   | outgrown => exact (Only.lets hR).elim
  case row row args =>
   obtain ⟨v, w'', hR, _⟩ := h (Frame.enter P 0 #[] .normal) [];exact ⟨_, _, v, hR, rfl⟩
 | halt x w' =>
  cases x <;> simp only [Oper.upon] at h
  case panic v => exact h.elim
theorem eval_of_tmps {a b : Act} (h : a.tmps = b.tmps) : a.eval = b.eval := by
 funext x; cases x <;> simp [Act.eval, h]
theorem good_congr {ρ ρ' : Operand -> Value} (op : Op) (h : ∀ x ∈ op.operands, ρ x = ρ' x) : goodVals ρ op = goodVals ρ' op := by
 cases op <;> simp only [goodVals]
 case binOp b t x y u => rw [h x (by simp [Op.operands]), h y (by simp [Op.operands])]
 case nilCheck x => rw [h x (by simp [Op.operands])]
 case call c =>
  have hall : (c.args.all fun x => gv (ρ x)) = (c.args.all fun x => gv (ρ' x)) := by
   rw [Bool.eq_iff_iff, Array.all_eq_true_iff_forall_mem, Array.all_eq_true_iff_forall_mem];exact ⟨fun g x hx => by rw [<- h x (by simp [Op.operands, Call.operands, hx])]; exact g x hx, fun g x hx => by rw [h x (by simp [Op.operands, Call.operands, hx])]; exact g x hx⟩
  split <;> first | rfl | exact hall
theorem good_put {o : Oper} {a : Act} {dst : Option Tmp} {v : Value} (h : ∀ d, dst = some d -> d ∉ o.looksAt ops) : goodVals (a.put dst v).eval o.op = goodVals a.eval o.op :=
 good_congr o.op fun x hx => Act.eval_put fun d hd hxd => h d hd (by
  subst hxd;exact List.mem_append_left _ (List.mem_filterMap.2 ⟨.tmp d, by simpa using hx, rfl⟩))
theorem stepG_const {i : Nat} {o : Oper} (ho : ops[i]? = some o) (hk : kindOf o.op = 0) {n : Act -> World -> Prop} {a : Act} {w : World} (h : stepG P ops i n a w) :
  ∃ v, Yields P ops o v a /\ n (a.put o.dst v) w := by
 unfold stepG at h;simp only [ho] at h;by_cases hw : Region.wanted o (yielded ops a.tmps) = true
 ·simp only [hw, if_true] at h
  obtain ⟨hg, h⟩ := h;unfold Oper.wp at h;have hc := CV_kind0 hk hg;cases hr : (execOp a.eval o).run P w with
  | ok x w' =>
   obtain ⟨⟨v, rfl⟩, rfl, hall⟩ := hc P w x w' hr;rw [hr] at h;exact ⟨v, .inl ⟨hw, hall⟩, h⟩
  | halt x w' => rw [hr] at h; cases x <;> simp only [Oper.upon] at h; exact h.elim
 ·simp only [hw] at h
  exact ⟨undef, .inr ⟨by simpa using hw, rfl⟩, h⟩
theorem stepG_reads {i : Nat} {o : Oper} (ho : ops[i]? = some o) (hk : kindOf o.op <= 1) {n : Act -> World -> Prop} {a : Act} {w : World} (h : stepG P ops i n a w) :
  ∃ v, YieldsAt P ops w o v a /\ n (a.put o.dst v) w := by
 unfold stepG at h;simp only [ho] at h;by_cases hw : Region.wanted o (yielded ops a.tmps) = true
 ·simp only [hw, if_true] at h
  obtain ⟨hg, h⟩ := h;unfold Oper.wp at h;have hc : RV (execOp a.eval o) := by
   rcases Nat.lt_or_ge (kindOf o.op) 1 with h0 | h1
   ·exact (CV_kind0 (by omega) hg).rv
   ·exact RV_kind1 (by omega)
  cases hr : (execOp a.eval o).run P w with
  | ok x w' =>
   obtain ⟨⟨v, rfl⟩, rfl⟩ := hc P w x w' hr;rw [hr] at h;exact ⟨v, .inl ⟨hw, .inl hr⟩, h⟩
  | halt x w' => rw [hr] at h; cases x <;> simp only [Oper.upon] at h; exact h.elim
 ·simp only [hw] at h
  exact ⟨undef, .inr ⟨by simpa using hw, rfl⟩, h⟩
theorem stepG_in {i : Nat} {oi ot : Oper} {v : Value} (hi : ops[i]? = some oi) (hap : oi.apart ops ot = true)
  (hsi : ∀ cs b, oi.op ≠ .select cs b) (hst : ∀ cs b, ot.op ≠ .select cs b) {N M : Act -> World -> Prop} {a : Act} {w : World}
  (hN : ∀ a1 w1, N a1 w1 -> Yields P ops ot v a1 -> M (a1.put ot.dst v) w1)
  (hy : Yields P ops ot v a) (h : stepG P ops i N a w) : stepG P ops i M (a.put ot.dst v) w := by
 obtain ⟨h1, h2, h3⟩ := Oper.apart_spec hap;have h2' : ∀ d, ot.dst = some d -> oi.dst ≠ some d := fun d hd he => h2 d he hd
 have keep : ∀ (a : Act), Yields P ops ot v a -> ∀ u, Yields P ops ot v (a.put oi.dst u) := fun a hy u =>
  hy.of_same (execOp_put ot hst a oi.dst u h1) (wanted_put ot a oi.dst u h1)
 have keepD : ∀ d, Yields P ops ot v { a with defers := d :: a.defers } := fun d => hy.of_same rfl rfl
 unfold stepG at *;simp only [hi] at *;rw [wanted_put oi a ot.dst v h3]
 split
 ·rename_i hw
  simp only [hw, if_true] at h;obtain ⟨hg, h⟩ := h;refine ⟨by rw [good_put (ops := ops) h3]; exact hg, ?_⟩;unfold Oper.wp at *;rw [execOp_put oi hsi a ot.dst v h3];generalize (execOp a.eval oi).run P w = r at *;cases r with
  | ok n w' =>
   cases n <;> simp only [Oper.upon] at h ⊢
   case value u => rw [Act.put_comm a v u h2']; exact hN _ _ h (keep a hy u)
   case skip => rw [Act.put_comm a v undef h2']; exact hN _ _ h (keep a hy undef)
   case defer d =>
    rw [Act.put_defers, Act.put_comm _ v undef h2'];exact hN _ _ h (keep _ (keepD d) undef)
   case enter f args =>
    refine Calls.mono h fun e w'' he => ?_
    cases e with
    | returned u => dsimp only at he ⊢; rw [Act.put_comm a v u h2']; exact hN _ _ he (keep a hy u)
    | panicked c => exact he
    | outgrown => exact he
   case row row args => exact Rows.mono h fun u w'' he => by rw [Act.put_comm a v u h2']; exact hN _ _ he (keep a hy u)
  | halt x w' =>
   cases x <;> simp only [Oper.upon] at h ⊢
   case panic u => exact h
 ·rename_i hw
  simp only [hw] at h;rw [Act.put_comm a v undef h2'];exact hN _ _ h (keep a hy undef)
def Yields1 (P : Program) (ops : Array Oper) (w : World) (o : Oper) (v : Value) (a : Act) : Prop :=
 (Region.wanted o (yielded ops a.tmps) = true /\ (execOp a.eval o).run P w = .ok (.value v) w) ∨ (Region.wanted o (yielded ops a.tmps) = false /\ v = undef)
theorem Yields_det {o : Oper} {v v' : Value} {a : Act} (h : Yields P ops o v a) (h' : Yields P ops o v' a) (w0 : World) : v = v' := by
 rcases h with ⟨hw, hv⟩ | ⟨hw, rfl⟩ <;> rcases h' with ⟨hw', hv'⟩ | ⟨hw', rfl⟩
 ·have := (hv w0).symm.trans (hv' w0)
  cases this; rfl
 ·rw [hw] at hw'; cases hw'
 ·rw [hw] at hw'; cases hw'
 ·rfl
def GoodAt (ops : Array Oper) (o : Oper) (a : Act) : Prop := Region.wanted o (yielded ops a.tmps) = true -> goodVals a.eval o.op = true
theorem stepG_good {i : Nat} {o : Oper} (hi : ops[i]? = some o) {N : Act -> World -> Prop} {a : Act} {w : World} (h : stepG P ops i N a w) : GoodAt ops o a := by
 intro hw;unfold stepG at h;simp only [hi, hw, if_true] at h;exact h.1
theorem GoodAt_put {o : Oper} {a : Act} {dst : Option Tmp} {v : Value} (h : ∀ d, dst = some d -> d ∉ o.looksAt ops) : GoodAt ops o (a.put dst v) ↔ GoodAt ops o a := by
 unfold GoodAt;rw [wanted_put o a dst v h, good_put (ops := ops) h]
theorem GoodAt_tmps {o : Oper} {a b : Act} (h : a.tmps = b.tmps) : GoodAt ops o a ↔ GoodAt ops o b := by
 unfold GoodAt;rw [h, eval_of_tmps h]
theorem stepG_of_const {i : Nat} {o : Oper} {v : Value} {a : Act} {w : World} (hi : ops[i]? = some o) (hy : Yields P ops o v a) (hg : GoodAt ops o a)
  {N : Act -> World -> Prop} (h : N (a.put o.dst v) w) : stepG P ops i N a w := by
 unfold stepG;simp only [hi];rcases hy with ⟨hw, hv⟩ | ⟨hw, rfl⟩
 ·simp only [hw, if_true]; exact ⟨hg hw, by unfold Oper.wp; rw [hv]; exact h⟩
 ·simp only [hw, Bool.false_eq_true, if_false]; exact h
theorem stepG_of_one {i : Nat} {o : Oper} {v : Value} {a : Act} {w : World} (hi : ops[i]? = some o) (hy : Yields1 P ops w o v a) (hg : GoodAt ops o a)
  {N : Act -> World -> Prop} (h : N (a.put o.dst v) w) : stepG P ops i N a w := by
 unfold stepG;simp only [hi];rcases hy with ⟨hw, hv⟩ | ⟨hw, rfl⟩
 ·simp only [hw, if_true]; exact ⟨hg hw, by unfold Oper.wp; rw [hv]; exact h⟩
 ·simp only [hw, Bool.false_eq_true, if_false]; exact h
theorem stepG_behind {t : Nat} {oi ot : Oper} {v : Value} (ht : ops[t]? = some ot) (hap : oi.apart ops ot = true)
  (hsi : ∀ cs b, oi.op ≠ .select cs b) (hst : ∀ cs b, ot.op ≠ .select cs b) {N : Act -> World -> Prop} {a : Act} {w : World}
  (hy : Yields P ops oi v a) (hg : GoodAt ops oi a) (h : stepG P ops t N (a.put oi.dst v) w) :
  stepG P ops t (fun a' w' => (Yields P ops oi v a' /\ GoodAt ops oi a') /\ N (a'.put oi.dst v) w') a w := by
 obtain ⟨h1, h2, h3⟩ := Oper.apart_spec hap;have keep : ∀ (a : Act), Yields P ops oi v a /\ GoodAt ops oi a -> ∀ u, Yields P ops oi v (a.put ot.dst u) /\ GoodAt ops oi (a.put ot.dst u) := fun a hy u =>
  ⟨hy.1.of_same (execOp_put oi hsi a ot.dst u h3) (wanted_put oi a ot.dst u h3), (GoodAt_put h3).2 hy.2⟩
 have keepD : ∀ d, Yields P ops oi v { a with defers := d :: a.defers } /\ GoodAt ops oi { a with defers := d :: a.defers } := fun d => ⟨hy.of_same rfl rfl, hg⟩
 unfold stepG at *;simp only [ht] at *;rw [wanted_put ot a oi.dst v h1] at h
 split
 ·rename_i hw
  simp only [hw, if_true] at h;obtain ⟨hgt, h⟩ := h;refine ⟨by rw [good_put (ops := ops) h1] at hgt; exact hgt, ?_⟩;unfold Oper.wp at *;rw [execOp_put ot hst a oi.dst v h1] at h;generalize (execOp a.eval ot).run P w = r at *;cases r with
  | ok n w' =>
   cases n <;> simp only [Oper.upon] at h ⊢
   case value u => exact ⟨keep a ⟨hy, hg⟩ u, by rw [<- Act.put_comm a v u h2]; exact h⟩
   case skip => exact ⟨keep a ⟨hy, hg⟩ _, by rw [<- Act.put_comm a v undef h2]; exact h⟩
   case defer d =>
    refine ⟨keep _ (keepD d) _, ?_⟩;rw [<- Act.put_comm _ v undef h2, <- Act.put_defers];exact h
   case enter f args =>
    refine Calls.mono h fun e w'' he => ?_
    cases e with
    | returned u => exact ⟨keep a ⟨hy, hg⟩ u, by rw [<- Act.put_comm a v u h2]; exact he⟩
    | panicked c => exact he
    | outgrown => exact he
   case row row args => exact Rows.mono h fun u w'' he => ⟨keep a ⟨hy, hg⟩ u, by rw [<- Act.put_comm a v u h2]; exact he⟩
  | halt x w' =>
   cases x <;> simp only [Oper.upon] at h ⊢
   case panic u => exact h
 ·rename_i hw
  simp only [hw] at h;exact ⟨keep a ⟨hy, hg⟩ _, by rw [<- Act.put_comm a v undef h2]; exact h⟩
theorem stepG_swap {i t : Nat} {oi ot : Oper} (hi : ops[i]? = some oi) (ht : ops[t]? = some ot) (hap : oi.apart ops ot = true)
  (hsi : ∀ cs b, oi.op ≠ .select cs b) (hst : ∀ cs b, ot.op ≠ .select cs b)
  (hk : kindOf oi.op = 0 ∨ kindOf ot.op = 0 ∨ (kindOf oi.op <= 1 /\ kindOf ot.op <= 1)) {N : Act -> World -> Prop} {a : Act} {w : World}
  (h : stepG P ops i (stepG P ops t N) a w) : stepG P ops t (stepG P ops i N) a w := by
 obtain ⟨h1, h2, h3⟩ := Oper.apart_spec hap;have hgi := stepG_good hi h;rcases hk with hk | hk | ⟨hk1, hk2⟩
 ·obtain ⟨v, hy, h4⟩ := stepG_const hi hk h
  exact stepG_mono (fun a' w' h5 => stepG_of_const hi h5.1.1 h5.1.2 h5.2) (stepG_behind ht hap hsi hst hy hgi h4)
 ·have hout : ∃ v, Yields P ops ot v a /\ GoodAt ops ot a := by
   have hex : ∃ a1 w1 u, stepG P ops t N a1 w1 /\ a1.tmps = (a.put oi.dst u).tmps := by
    have h' := h;unfold stepG at h';simp only [hi] at h';by_cases hw : Region.wanted oi (yielded ops a.tmps) = true
    ·simp only [hw, if_true] at h'
     exact wp_out h'.2
    ·simp only [hw] at h'
     exact ⟨_, _, undef, h', rfl⟩
   obtain ⟨a1, w1, u, h5, htm⟩ := hex;obtain ⟨v, hy, _⟩ := stepG_const ht hk h5;refine ⟨v, hy.of_same ?_ ?_, ?_⟩
   ·rw [eval_of_tmps htm, execOp_put ot hst a oi.dst u h1]
   ·rw [htm, wanted_put ot a oi.dst u h1]
   ·exact (GoodAt_put h1).1 ((GoodAt_tmps htm).1 (stepG_good ht h5))
  obtain ⟨v, hy, hg⟩ := hout;refine stepG_of_const ht hy hg ?_;refine stepG_in hi hap hsi hst (fun a1 w1 h5 hy1 => ?_) hy h;obtain ⟨v', hy', h6⟩ := stepG_const ht hk h5;rw [Yields_det hy1 hy' w1];exact h6
 ·obtain ⟨v, hy, h4⟩ := stepG_reads hi hk1 h
  obtain ⟨u, hu, h5⟩ := stepG_reads ht hk2 h4;have hgt := (GoodAt_put h1).1 (stepG_good ht h4);have hu' : YieldsAt P ops w ot u a := hu.of_same (execOp_put ot hst a oi.dst v h1).symm (wanted_put ot a oi.dst v h1).symm;have hy' : YieldsAt P ops w oi v (a.put ot.dst u) := hy.of_same (execOp_put oi hsi a ot.dst u h3) (wanted_put oi a ot.dst u h3);have noEnter : ∀ {o : Oper} {a : Act}, kindOf o.op <= 1 -> GoodAt ops o a -> ∀ x, YieldsAt P ops w o x a -> Yields1 P ops w o x a := fun {o a} hk hg x hx => by
   rcases hx with ⟨hw, hv | ⟨hv, rfl⟩ | ⟨f, args, hv, hc⟩⟩ | ⟨hw, rfl⟩
   ·exact .inl ⟨hw, hv⟩
   ·have hr : RV (execOp a.eval o) := by
     rcases Nat.lt_or_ge (kindOf o.op) 1 with h0 | h1
     ·exact (CV_kind0 (by omega) (hg hw)).rv
     ·exact RV_kind1 (by omega)
    obtain ⟨⟨v, hv2⟩, _⟩ := hr P w _ w hv;cases hv2
   ·have hr : RV (execOp a.eval o) := by
     rcases Nat.lt_or_ge (kindOf o.op) 1 with h0 | h1
     ·exact (CV_kind0 (by omega) (hg hw)).rv
     ·exact RV_kind1 (by omega)
    obtain ⟨⟨v, hv2⟩, _⟩ := hr P w _ w hv;cases hv2
   ·exact .inr ⟨hw, rfl⟩
  refine stepG_of_one ht (noEnter hk2 hgt u hu') hgt ?_;refine stepG_of_one hi (noEnter hk1 ((GoodAt_put h3).2 hgi) v hy') ((GoodAt_put h3).2 hgi) ?_;rw [<- Act.put_comm a v u h2];exact h5
end
section
variable {P : Program} {ops : Array Oper} {K : Act -> World -> Prop}
def walkG (P : Program) (ops : Array Oper) (K : Act -> World -> Prop) : List Nat -> Act -> World -> Prop
 | [], a, w => K a w
 | i :: r, a, w => stepG P ops i (walkG P ops K r) a w
def mayChange (ops : Array Oper) (i t : Nat) : Prop :=
 ∀ oi ot, ops[i]? = some oi -> ops[t]? = some ot -> oi.apart ops ot = true /\ (kindOf oi.op = 0 ∨ kindOf ot.op = 0 ∨ (kindOf oi.op <= 1 /\ kindOf ot.op <= 1))
theorem walkG_first (hsel : Region.noSelect ops = true) {i : Nat} (hlt : i < ops.size) : ∀ (τ ρ : List Nat) (a : Act) (w : World), (∀ t ∈ τ, t < ops.size /\ mayChange ops t i) ->
  walkG P ops K (τ ++ i :: ρ) a w -> stepG P ops i (walkG P ops K (τ ++ ρ)) a w
 | [], ρ, a, w, _, h => h
 | t :: τ, ρ, a, w, hτ, h => by
  obtain ⟨ht, hc⟩ := hτ t (by simp);have h1 : stepG P ops t (stepG P ops i (walkG P ops K (τ ++ ρ))) a w :=
   stepG_mono (fun a' w' h' => walkG_first hsel hlt τ ρ a' w' (fun x hx => hτ x (by simp [hx])) h') h
  have e1 : ops[t]? = some ops[t] := Array.getElem?_eq_getElem ht;have e2 : ops[i]? = some ops[i] := Array.getElem?_eq_getElem hlt;obtain ⟨hap, hk⟩ := hc _ _ e1 e2;exact stepG_swap e1 e2 hap (fun cs b => Region.noSelect_spec hsel t _ cs b e1) (fun cs b => Region.noSelect_spec hsel i _ cs b e2) hk h1
def rem (ops : Array Oper) (listed : Array Bool) : List Nat := (List.range ops.size).filter fun i => !listed.getD i true
theorem mem_rem {listed : Array Bool} {i : Nat} : i ∈ rem ops listed ↔ i < ops.size /\ listed.getD i true = false := by
 simp [rem]
theorem rem_split {listed : Array Bool} (hs : listed.size = ops.size) {i : Nat} (hi : i ∈ rem ops listed) :
  ∃ τ ρ, rem ops listed = τ ++ i :: ρ /\ rem ops (listed.setIfInBounds i true) = τ ++ ρ /\ ∀ t ∈ τ, t < i /\ t ∈ rem ops listed := by
 obtain ⟨hlt, hun⟩ := mem_rem.1 hi;have hr : List.range ops.size = List.range i ++ i :: List.range' (i + 1) (ops.size - i - 1) := by
  rw [List.range_eq_range', List.range_eq_range'];have h1 : List.range' 0 ops.size = List.range' 0 i ++ List.range' (0 + 1 * i) (ops.size - i) := by
   rw [List.range'_append];congr 1;omega
  rw [h1];congr 1;rw [show ops.size - i = (ops.size - i - 1) + 1 from by omega, List.range'_succ];simp
 refine ⟨(List.range i).filter fun j => !listed.getD j true, (List.range' (i + 1) (ops.size - i - 1)).filter fun j => !listed.getD j true, ?_, ?_, ?_⟩
 ·unfold rem
  rw [hr, List.filter_append, List.filter_cons];simp only [hun, Bool.not_false, if_true]
 ·unfold rem
  rw [hr, List.filter_append, List.filter_cons];have hin : (listed.setIfInBounds i true).getD i true = true := by simp [hs, hlt]
  rw [hin];simp only [Bool.not_true, Bool.false_eq_true, if_false];congr 1
  ·refine List.filter_congr fun j hj => ?_
   rw [getD_set_ne true (by have := List.mem_range.1 hj; omega)]
  ·refine List.filter_congr fun j hj => ?_
   rw [getD_set_ne true (by have := (List.mem_range'_1.1 hj).1; omega)]
 ·intro t ht
  have h1 := List.mem_filter.1 ht;have h2 := List.mem_range.1 h1.1;exact ⟨h2, mem_rem.2 ⟨by omega, by simpa using h1.2⟩⟩
def Closed (ops : Array Oper) (listed : Array Bool) : Prop :=
 ∀ j oj, ops[j]? = some oj -> listed.getD j false = true -> ∀ e ∈ oj.after, Region.binds .any e = true -> listed.getD e.on false = true
theorem Closed.set {i : Nat} {listed : Array Bool} (h : Closed ops listed) (hi : i ∈ Region.ready .any ops listed) : Closed ops (listed.setIfInBounds i true) := by
 intro j oj hj hl e he hb;obtain ⟨_, oi, hoi, hall⟩ := mem_ready.1 hi;by_cases hij : i = j
 ·subst hij
  have : oj = oi := Option.some.inj (hj.symm.trans hoi);subst this;exact getD_set_true (hall e he hb)
 ·rw [getD_set_ne false hij] at hl
  exact getD_set_true (h j oj hj hl e he hb)
theorem getD_replicate0 (m j : Nat) : (Array.replicate m false).getD j false = false := by
 rcases Nat.lt_or_ge j m with h | h
 ·simp [h]
 ·simp [h]
def waits : List Oper -> List Nat -> List Nat
 | [], acc => acc
 | o :: r, acc => waits r (acc ++ [o.after.toList.foldl (fun s e => if Region.binds .any e then s ||| 2 ^ e.on ||| acc.getD e.on 0 else s) 0])
theorem foldl_or (acc : List Nat) (t : Nat) : ∀ (es : List Edge) (s : Nat), (es.foldl (fun s e => if Region.binds .any e then s ||| 2 ^ e.on ||| acc.getD e.on 0 else s) s).testBit t = true ->
  s.testBit t = true ∨ ∃ e ∈ es, Region.binds .any e = true /\ (e.on = t ∨ (acc.getD e.on 0).testBit t = true)
 | [], s, h => .inl h
 | e :: es, s, h => by
  rw [List.foldl_cons] at h;rcases foldl_or acc t es _ h with h1 | ⟨e', he', hb, hx⟩
  ·by_cases hb : Region.binds .any e = true
   ·rw [if_pos hb, Nat.testBit_or, Nat.testBit_or, Nat.testBit_two_pow, Bool.or_eq_true, Bool.or_eq_true] at h1
    rcases h1 with (h1 | h1) | h1
    ·exact .inl h1
    ·exact .inr ⟨e, by simp, hb, .inl (by simpa using h1)⟩
    ·exact .inr ⟨e, by simp, hb, .inr h1⟩
   ·rw [if_neg hb] at h1
    exact .inl h1
  ·exact .inr ⟨e', by simp [he'], hb, hx⟩
def Truth (ops : Array Oper) (acc : List Nat) : Prop :=
 ∀ i t, i < acc.length -> (acc.getD i 0).testBit t = true -> ∃ oi, ops[i]? = some oi /\ ∃ e ∈ oi.after, Region.binds .any e = true /\ (e.on = t ∨ (e.on < i /\ (acc.getD e.on 0).testBit t = true))
theorem waits_truth (hback : ∀ i oi, ops[i]? = some oi -> ∀ e ∈ oi.after, Region.binds .any e = true -> e.on < i) :
  ∀ (l : List Oper) (acc : List Nat), (∀ j, l[j]? = ops[acc.length + j]?) -> Truth ops acc -> Truth ops (waits l acc)
 | [], acc, _, h => h
 | o :: r, acc, hl, h => by
  unfold waits;have ho : ops[acc.length]? = some o := by simpa using (hl 0).symm
  refine waits_truth hback r _ (fun j => by have := hl (j + 1); simpa [Nat.add_assoc, Nat.add_comm 1 j] using this) ?_;intro i t hi hb;rw [List.length_append, List.length_singleton] at hi;rcases Nat.lt_or_ge i acc.length with h1 | h1
  ·have e1 : ∀ x, x < acc.length -> (acc ++ [o.after.toList.foldl (fun s e => if Region.binds .any e then s ||| 2 ^ e.on ||| acc.getD e.on 0 else s) 0]).getD x 0 = acc.getD x 0 := fun x hx => by
    simp [List.getD_eq_getElem?_getD, List.getElem?_append_left hx]
   rw [e1 i h1] at hb;obtain ⟨oi, hoi, e, he, hbe, hx⟩ := h i t h1 hb;exact ⟨oi, hoi, e, he, hbe, hx.imp id fun hx => ⟨hx.1, by rw [e1 _ (by omega)]; exact hx.2⟩⟩
  ·obtain rfl : i = acc.length := by omega
   have e0 : (acc ++ [o.after.toList.foldl (fun s e => if Region.binds .any e then s ||| 2 ^ e.on ||| acc.getD e.on 0 else s) 0]).getD acc.length 0 = o.after.toList.foldl (fun s e => if Region.binds .any e then s ||| 2 ^ e.on ||| acc.getD e.on 0 else s) 0 := by
    simp [List.getD_eq_getElem?_getD]
   rw [e0] at hb;rcases foldl_or acc t _ _ hb with h2 | ⟨e, he, hbe, hx⟩
   ·simp at h2
   ·have he' : e ∈ o.after := by simpa using he
    have hlt := hback _ _ ho e he' hbe;refine ⟨o, ho, e, he', hbe, hx.imp id fun hx => ⟨hlt, ?_⟩⟩;have e1 : (acc ++ [o.after.toList.foldl (fun s e => if Region.binds .any e then s ||| 2 ^ e.on ||| acc.getD e.on 0 else s) 0]).getD e.on 0 = acc.getD e.on 0 := by
     simp [List.getD_eq_getElem?_getD, List.getElem?_append_left hlt]
    rw [e1]; exact hx
theorem Truth.listed {acc : List Nat} (h : Truth ops acc) {listed : Array Bool} (hcl : Closed ops listed) : ∀ (i : Nat) (oi : Oper) (t : Nat), i < acc.length -> ops[i]? = some oi ->
  (∀ e ∈ oi.after, Region.binds .any e = true -> listed.getD e.on false = true) -> (acc.getD i 0).testBit t = true -> listed.getD t false = true := by
 intro i
 induction i using Nat.strongRecOn with
 | _ i ih =>
  intro oi t hi hoi hall hb;obtain ⟨oi', hoi', e, he, hbe, hx⟩ := h i t hi hb;have : oi' = oi := Option.some.inj (hoi'.symm.trans hoi);subst this;rcases hx with rfl | ⟨hlt, hx⟩
  ·exact hall e he hbe
  ·have hon := hall e he hbe
   have hsz : e.on < ops.size := by have := (Array.getElem?_eq_some_iff.1 hoi).1; omega
   have e1 : ops[e.on]? = some ops[e.on] := Array.getElem?_eq_getElem hsz;exact ih e.on hlt _ t (by omega) e1 (hcl e.on _ e1 hon) hx
def OnlyG (l : List Oper) (K : Act -> World -> Prop) : Exit -> Act -> World -> Prop
 | .normal, a, w => (l.all fun o => goodVals a.eval o.op || !Region.wanted o (yielded l.toArray a.tmps)) = true /\ K a w
 | _, _, _ => False
theorem OnlyG.intro {l : List Oper} {K : Act -> World -> Prop} {a : Act} {w : World} (h : (l.all fun o => goodVals a.eval o.op || !Region.wanted o (yielded l.toArray a.tmps)) = true) (hK : K a w) : OnlyG l K .normal a w := ⟨h, hK⟩
theorem OnlyG.lets {l : List Oper} {K : Act -> World -> Prop} : ¬ LetsOut (OnlyG l K) := fun ⟨_, _, h⟩ => h
theorem wp_strict {o : Oper} {a : Act} {w : World} {next : Act -> World -> Prop} {l : List Oper} (h : o.wp P a w next (OnlyG l K)) : o.wp P a w next (Only fun _ _ => False) := by
 unfold Oper.wp at *;generalize (execOp a.eval o).run P w = r at *;cases r with
 | ok n w' =>
  cases n <;> simp only [Oper.upon] at h ⊢
  case enter f args =>
   refine Calls.mono h fun e w'' he => ?_
   cases e with
   | returned v => exact he
   | panicked c => exact he
   | outgrown => exact (OnlyG.lets he).elim
  all_goals exact h
 | halt x w' =>
  cases x <;> simp only [Oper.upon] at h ⊢
  case panic v => exact h
theorem good_default {ρ : Operand -> Value} {op : Op} (h : asksVals op = false) : goodVals ρ op = true := by
 cases op <;> simp [asksVals] at h <;> rfl
theorem list_walk {l0 : List Oper} (h0 : ops = l0.toArray) : ∀ (l : List Oper) (p : Nat), (∀ j, l[j]? = ops[p + j]?) ->
  (∀ (j q : Nat) (o o' : Oper), l[j]? = some o -> l[q]? = some o' -> j <= q -> asksVals o.op = true -> ∀ d, o'.dst = some d -> d ∉ o.looksAt ops) ->
  ∀ (a : Act) (w : World), wpList P ops (OnlyG l0 K) l a w ->
  walkG P ops K (List.range' p l.length) a w /\ ∃ a' w', (l0.all fun o => goodVals a'.eval o.op || !Region.wanted o (yielded l0.toArray a'.tmps)) = true /\ K a' w' /\
   ∀ s, (∀ o ∈ l, o.dst ≠ some s) -> a'.tmps[s]? = a.tmps[s]?
 | [], p, _, _, a, w, h => ⟨h.2, a, w, h.1, h.2, fun _ _ => rfl⟩
 | o :: r, p, hl, hst, a, w, h => by
  have ho : ops[p]? = some o := by simpa using (hl 0).symm
  have hl' : ∀ j, r[j]? = ops[p + 1 + j]? := fun j => by have := hl (j + 1); simpa [Nat.add_assoc, Nat.add_comm 1 j] using this
  have hst' : ∀ (j q : Nat) (o o' : Oper), r[j]? = some o -> r[q]? = some o' -> j <= q -> asksVals o.op = true -> ∀ d, o'.dst = some d -> d ∉ o.looksAt ops := fun j q o o' h1 h2 h3 => hst (j + 1) (q + 1) o o' (by simpa using h1) (by simpa using h2) (by omega)
  have ih := list_walk h0 r (p + 1) hl' hst';rw [List.length_cons, List.range'_succ];unfold wpList at h;have fin : ∀ (a1 : Act) (v : Value), a1.tmps = (a.put o.dst v).tmps -> (∃ a' w', (l0.all fun o => goodVals a'.eval o.op || !Region.wanted o (yielded l0.toArray a'.tmps)) = true /\ K a' w' /\ ∀ s, (∀ o ∈ r, o.dst ≠ some s) -> a'.tmps[s]? = a1.tmps[s]?) ->
    GoodAt ops o a /\ ∃ a' w', (l0.all fun o => goodVals a'.eval o.op || !Region.wanted o (yielded l0.toArray a'.tmps)) = true /\ K a' w' /\ ∀ s, (∀ o' ∈ o :: r, o'.dst ≠ some s) -> a'.tmps[s]? = a.tmps[s]? := by
   rintro a1 v htm ⟨a', w', hall, hK, hs⟩;have keep : ∀ s, (∀ o' ∈ o :: r, o'.dst ≠ some s) -> a'.tmps[s]? = a.tmps[s]? := fun s hn => by
    rw [hs s fun o' ho' => hn o' (by simp [ho']), htm];have := hn o (by simp);cases hd : o.dst with
    | none => rfl
    | some d =>
     have hne : d ≠ s := fun e => this (by rw [hd, e])
     simp [Act.put, Array.getElem?_setIfInBounds_ne hne]
   refine ⟨fun hw => ?_, a', w', hall, hK, keep⟩;cases hask : asksVals o.op with
   | false => exact good_default hask
   | true =>
    have hlook : ∀ d, d ∈ o.looksAt ops -> a'.tmps[d]? = a.tmps[d]? := fun d hd => keep d fun o' ho' he => by
     obtain ⟨q, hq, hq'⟩ := List.getElem_of_mem ho';exact hst 0 q o o' rfl (by rw [List.getElem?_eq_getElem hq, hq']) (Nat.zero_le _) hask d he hd
    have hev : ∀ x ∈ o.op.operands, a'.eval x = a.eval x := fun x hx => by
     cases x with
     | tmp d =>
      have : d ∈ o.looksAt ops := List.mem_append_left _ (List.mem_filterMap.2 ⟨.tmp d, by simpa using hx, rfl⟩);simp [Act.eval, Array.getD_eq_getD_getElem?, hlook d this]
     | _ => rfl
    have hwa : Region.wanted o (yielded ops a'.tmps) = Region.wanted o (yielded ops a.tmps) := by
     unfold Region.wanted;cases hg : o.guard with
     | none => rfl
     | some gw =>
      obtain ⟨g, want⟩ := gw;have hy : yielded ops a'.tmps g = yielded ops a.tmps g := by
       unfold yielded;cases ht : (ops[g]?).bind (·.dst) with
       | none => rfl
       | some d =>
        have : d ∈ o.looksAt ops := by simp [Oper.looksAt, hg, ht]
        simp [hlook d this]
      simp only [hy]
    have hmem : o ∈ l0 := by
     have := Array.mem_of_getElem? ho;rw [h0] at this;simpa using this
    have h9 := List.all_eq_true.1 hall o hmem;rw [<- h0, hwa, hw, good_congr o.op hev] at h9;simpa using h9
  by_cases hw : Region.wanted o (yielded ops a.tmps) = true
  ·rw [if_pos hw] at h
   rcases h with h | ⟨_, hlets⟩
   case inr => exact (OnlyG.lets hlets).elim
   have h1 := wp_strict h;have h2 := Oper.wp_mono (fun a1 w1 hr => ih a1 w1 hr) h1;obtain ⟨a1, w1, v, h3, htm⟩ := wp_out h2;obtain ⟨hg, hfin⟩ := fin a1 v htm h3.2;refine ⟨?_, hfin⟩;show stepG P ops p _ a w;unfold stepG;simp only [ho, hw, if_true];exact ⟨hg hw, Oper.wp_mono (fun a1 w1 hr => hr.1) h2⟩
  ·rw [if_neg hw] at h
   have h2 := ih _ _ h;obtain ⟨hg, hfin⟩ := fin (a.put o.dst undef) undef rfl h2.2;refine ⟨?_, hfin⟩;show stepG P ops p _ a w;unfold stepG;simp only [ho, hw, if_false, Bool.false_eq_true];exact h2.1
def lexB (ops : Array Oper) : Bool :=
 Region.noSelect ops && (List.range ops.size).all fun i => match ops[i]? with
  | none => true
  | some oi =>
   (oi.after.toList.all fun e => !Region.binds .any e || decide (e.on < i)) &&
   (!asksVals oi.op || (List.range ops.size).all fun q => decide (q < i) || match (ops[q]?).bind (·.dst) with
    | some d => !(oi.looksAt ops).contains d
    | none => true) &&
   (List.range i).all fun t => ((waits ops.toList []).getD i 0).testBit t || match ops[t]? with
    | none => true
    | some ot => ot.apart ops oi && (kindOf ot.op == 0 || kindOf oi.op == 0 || (decide (kindOf ot.op <= 1) && decide (kindOf oi.op <= 1)))
theorem walk_any (hsel : Region.noSelect ops = true) (hback : ∀ i oi, ops[i]? = some oi -> ∀ e ∈ oi.after, Region.binds .any e = true -> e.on < i) {acc : List Nat} (hacc : acc.length = ops.size) (htr : Truth ops acc)
  (hpair : ∀ i t, i < ops.size -> t < i -> (acc.getD i 0).testBit t = true ∨ mayChange ops t i) :
  ∀ (fuel : Nat) (listed : Array Bool) (a : Act) (w : World), listed.size = ops.size -> Closed ops listed -> (rem ops listed).length <= fuel ->
  walkG P ops K (rem ops listed) a w -> wpAny P .any ops (Only K) fuel listed a w := by
 have hrem : ∀ listed : Array Bool, listed.size = ops.size -> Closed ops listed -> Region.ready .any ops listed = [] -> rem ops listed = [] := fun listed hs hcl hr => by
  cases hm : rem ops listed with
  | nil => rfl
  | cons i l =>
   exfalso;have hi : i ∈ rem ops listed := by rw [hm]; simp
   obtain ⟨hlt, hun⟩ := mem_rem.1 hi;obtain ⟨τ, ρ, e1, _, e3⟩ := rem_split hs hi;have hτ : τ = [] := by
    cases τ with
    | nil => rfl
    | cons x τ =>
     rw [hm] at e1;have hx : i = x := (List.cons.inj e1).1;have := (e3 x (by simp)).1;omega
   have eo : ops[i]? = some ops[i] := Array.getElem?_eq_getElem hlt;have : i ∈ Region.ready .any ops listed := mem_ready.2 ⟨hun, _, eo, fun e he hb => by
    have hlt' := hback i _ eo e he hb;by_cases hle : listed.getD e.on false = true
    ·exact hle
    ·exfalso
     have hmem : e.on ∈ rem ops listed := mem_rem.2 ⟨by omega, by
      have : e.on < listed.size := by omega
      simp [this] at hle ⊢; exact hle⟩
     rw [e1, hτ, List.nil_append] at hmem;have hlow : ∀ x ∈ rem ops listed, i <= x := fun x hx => by
      obtain ⟨τ', ρ', f1, _, f3⟩ := rem_split hs hx;by_cases hτ' : τ' = []
      ·rw [hτ', List.nil_append, hm] at f1
       have := (List.cons.inj f1).1; omega
      ·cases τ' with
       | nil => exact absurd rfl hτ'
       | cons y τ' =>
        rw [hm] at f1;have := (List.cons.inj f1).1;have := (f3 y (by simp)).1;omega
     have := hlow e.on (by rw [e1, hτ, List.nil_append]; exact hmem);omega⟩
   rw [hr] at this;cases this
 intro fuel
 induction fuel with
 | zero =>
  intro listed a w hs hcl hlen h;have hnil : rem ops listed = [] := List.eq_nil_of_length_eq_zero (by omega);refine ⟨?_, by rw [hnil] at h; exact h⟩;cases hr : Region.ready .any ops listed with
  | nil => rfl
  | cons i l =>
   have hi : i ∈ Region.ready .any ops listed := by rw [hr]; simp
   obtain ⟨hun, o, ho, _⟩ := mem_ready.1 hi;have : i ∈ rem ops listed := mem_rem.2 ⟨(Array.getElem?_eq_some_iff.1 ho).1, hun⟩;rw [hnil] at this;cases this
 | succ fuel ih =>
  intro listed a w hs hcl hlen h;refine ⟨fun hr => by rw [hrem listed hs hcl hr] at h; exact h, fun i hi => ?_⟩;obtain ⟨hun, o, ho, hall⟩ := mem_ready.1 hi;have hlt : i < ops.size := (Array.getElem?_eq_some_iff.1 ho).1;obtain ⟨τ, ρ, e1, e2, e3⟩ := rem_split hs (mem_rem.2 ⟨hlt, hun⟩);rw [e1] at h;have hstep := walkG_first hsel hlt τ ρ a w (fun t ht => by
   obtain ⟨h1, h2⟩ := e3 t ht;refine ⟨by omega, (hpair i t hlt h1).resolve_left fun hb => ?_⟩;have := htr.listed hcl i o t (by omega) ho hall hb;have h3 := (mem_rem.1 h2).2;have h4 : t < listed.size := by omega
   simp [h4] at this h3;rw [h3] at this;cases this) h
  refine wpOp_mono (fun a' w' h' => ih _ a' w' (by simpa using hs) (hcl.set hi) ?_ (by rw [e2]; exact h')) (stepG_wpOp hstep);rw [e2];rw [e1] at hlen;simp only [List.length_append, List.length_cons] at hlen ⊢;omega
theorem waits_length : ∀ (l : List Oper) (acc : List Nat), (waits l acc).length = acc.length + l.length
 | [], acc => by simp [waits]
 | o :: r, acc => by unfold waits; rw [waits_length r]; simp; omega
theorem wp_region_lex {id : Nat} {l : List Oper} {Q : Exit -> Act -> World -> Prop} {a : Act} {w : World} (hm : P.follows .mixedOrders = true) (hB : lexB l.toArray = true)
  (h : wpList P l.toArray (OnlyG l (Q .normal)) l a w.drew) : (Code.region id l.toArray true).wp P Q a w := by
 refine Code.wp_mono (Q := Only (Q .normal)) (fun e a w hq => by cases e <;> first | exact hq | exact hq.elim) ?_;refine wp_region_any hm ?_;generalize hops : l.toArray = ops at *;unfold lexB at hB;simp only [Bool.and_eq_true, List.all_eq_true, List.mem_range] at hB;obtain ⟨hsel, hB⟩ := hB;have hB' : ∀ i oi, ops[i]? = some oi -> _ := fun i oi hi => by
  have := hB i (Array.getElem?_eq_some_iff.1 hi).1;simp only [hi, Bool.and_eq_true, List.all_eq_true, List.mem_range] at this;exact this
 have hback : ∀ i oi, ops[i]? = some oi -> ∀ e ∈ oi.after, Region.binds .any e = true -> e.on < i := fun i oi hi e he hb => by
  have := (hB' i oi hi).1.1 e (by simpa using he);simpa [hb] using this
 have hlen : l.length = ops.size := by rw [<- hops]; simp
 have hl : ∀ j, l[j]? = ops[0 + j]? := fun j => by rw [<- hops]; simp
 have htr : Truth ops (waits ops.toList []) := waits_truth hback ops.toList [] (fun j => by simp) (fun i t hi => by simp at hi);have hw := (list_walk (P := P) (K := Q .normal) hops.symm l 0 hl (fun j q o o' h1 h2 hjq hask d hd hm => by
  have hj : ops[j]? = some o := by rw [<- h1, hl]; simp
  have hq : ops[q]? = some o' := by rw [<- h2, hl]; simp
  have h5 := (hB' j o hj).1.2;rw [hask] at h5;simp only [Bool.not_true, Bool.false_or, List.all_eq_true, List.mem_range] at h5;have h6 := h5 q (Array.getElem?_eq_some_iff.1 hq).1;simp only [hq, Option.bind_some, hd, Bool.or_eq_true, decide_eq_true_eq] at h6;rcases h6 with h6 | h6
  ·omega
  ·simp [hm] at h6) a w.drew h).1
 have hr0 : rem ops (Array.replicate ops.size false) = List.range' 0 l.length := by
  unfold rem;rw [hlen, <- List.range_eq_range', List.filter_eq_self];intro i hi;have := List.mem_range.1 hi;simp [this]
 refine walk_any hsel hback (acc := waits ops.toList []) (by rw [waits_length]; simp) htr (fun i t hi ht => ?_) ops.size _ a _ (by simp) (fun j oj _ hl => by rw [getD_replicate0] at hl; cases hl) ?_ ?_
 ·have h1 := (hB' i _ (Array.getElem?_eq_getElem hi)).2 t ht
  simp only [Bool.or_eq_true] at h1;rcases h1 with h1 | h1
  ·exact .inl h1
  ·refine .inr fun ot oi hot hoi => ?_
   have e1 : oi = ops[i] := Option.some.inj (hoi.symm.trans (Array.getElem?_eq_getElem hi));subst e1;simp only [hot, Bool.and_eq_true, Bool.or_eq_true, beq_iff_eq, decide_eq_true_eq] at h1;obtain ⟨hap, hk⟩ := h1;refine ⟨hap, ?_⟩;rcases hk with (hk | hk) | hk
   ·exact .inl hk
   ·exact .inr (.inl hk)
   ·exact .inr (.inr hk)
 ·rw [hr0]; simp [hlen]
 ·rw [hr0]; exact hw
end
end
section
open Go Go.RowKit
theorem ret_int {k : IntKind} {a b : Int} (h : a = b) : Ending.returned (.int k a) = .returned (.int k b) := by rw [h]
theorem ret_bool {a b : Bool} (h : a = b) : Ending.returned (.bool a) = .returned (.bool b) := by rw [h]
theorem below_drewN {B : Nat} {a w : World} (h : Below B a w) (n : Nat) : Below B a (w.drewN n) :=
 h.trans ⟨rfl, rfl, rfl, Nat.le_refl _, fun _ _ => rfl⟩
theorem below_alloc {w w' : World} {o : Obj} (h : Below (w.alloc o).heap.size (w.alloc o) w') : Below w.heap.size w w' :=
 ((Below.refl _ _).alloc (Nat.le_refl _) o).trans (h.mono (by simp))
theorem below_later {w w1 w2 : World} {B : Nat} (h : Below B w w1) (hB : B <= w1.heap.size) (h2 : Below w1.heap.size w1 w2) : Below B w w2 := h.trans (h2.mono hB)
theorem heap_new (w : World) (o : Obj) (n : Nat) (hn : w.heap.size = n) : (w.alloc o).heap[n]? = some o := by
 subst hn; exact heap_alloc_new w o
theorem cells_new (w : World) (cs : List Value) (t : TypeId) (n : Nat) (hn : w.heap.size = n) : ∀ j u, cs[j]? = some u -> (w.alloc (.cells cs.toArray t)).cell? ((⟨n, 0, none⟩ : Addr).add j) = some u :=
 fun j u hu => World.news_of_block (cs := cs.toArray) (t := t) (fr := (0, 0)) (heap_new w _ n hn) j u (by simpa using hu)
theorem cells_new_drew (w : World) (cs : List Value) (t : TypeId) (n : Nat) (hn : w.heap.size = n) : ∀ j u, cs[j]? = some u -> (w.alloc (.cells cs.toArray t)).drew.cell? ((⟨n, 0, none⟩ : Addr).add j) = some u :=
 cells_new w cs t n hn
theorem cell_kept {w w' : World} {cs : Array Value} {t : TypeId} (h : Below (w.alloc (.cells cs t)).heap.size (w.alloc (.cells cs t)) w') (j : Nat) (v : Value) (hv : cs[j]? = some v) : w'.cell? ⟨w.heap.size, j, none⟩ = some v := by
 rw [h.cell (p := ⟨w.heap.size, j, none⟩) (by simp), cell_of_row _ w.heap.size j cs t (0, 0) (heap_new w _ _ rfl)];exact hv
theorem below_alloc' {a w w' : World} {o : Obj} (h0 : Below a.heap.size a w) (h : Below (w.alloc o).heap.size (w.alloc o) w') : Below a.heap.size a w' :=
 (h0.alloc h0.size o).trans (h.mono (by have := h0.size; simp; omega))
theorem below_grown0 {w w' : World} (h : w.grownBy w' none) : Below w.heap.size w w' := (Below.refl _ _).grown h (Nat.le_refl _) (fun k hk => by cases hk)
theorem below_append {w a w1 : World} {B : Nat} {e : TypeId} {size n : Nat} {v : Value} {xs : List Value} (h : Below B w a) (hown : a.ownsRow B e size v n xs) (hB : B <= a.heap.size) (hg : a.grownBy w1 v.ownBlock) : Below B w w1 :=
 h.grown hg hB fun k hk => (hown.lt k hk).1
theorem own_form {w : World} {base : Nat} {e : TypeId} {size : Nat} {v : Value} {n : Nat} {xs : List Value} (h : w.ownsRow base e size v n xs) :
  ∃ ao c, v = .slice ao n c /\ n <= c /\ (0 < n -> ∃ g, ao = some ⟨g, 0, none⟩ /\ base <= g /\ g < w.heap.size /\ ∀ j u, xs[j]? = some u -> w.cell? ⟨g, j, none⟩ = some u) := by
 rcases h.2 with ⟨rfl, rfl⟩ | ⟨g, cap, cur, hv, hb, hg, hn, _⟩
 ·exact ⟨none, 0, rfl, Nat.le_refl _, fun h => absurd h (by omega)⟩
 ·refine ⟨some ⟨g, 0, none⟩, cap, hv, hn, fun _ => ⟨g, rfl, hb, ?_, fun j u hu => ?_⟩⟩
  ·rcases Nat.lt_or_ge g w.heap.size with hlt | hge
   ·exact hlt
   ·rw [Array.getElem?_eq_none hge] at hg; cases hg
  ·have := h.cells (g := g) (by rw [hv]; rfl) j u hu
   have hadd : (⟨g, 0, none⟩ : Addr).add j = ⟨g, j, none⟩ := by unfold Addr.add; split <;> simp_all
   rwa [hadd] at this
def IntsAtK (κ : IntKind) (w : World) (B : Nat) (ao : Option Addr) (n : Nat) (z : Nat -> Int) : Prop :=
 0 < n -> ∃ b off, ao = some ⟨b, off, none⟩ /\ b < B /\ ∀ i, i < n -> w.cell? ⟨b, off + i, none⟩ = some (.int κ (z i))
theorem i64_and_mask (z : Int) (p : Nat) (hp : p <= 62) (m : Int) (hm : m = 2 ^ p - 1) : bits .and .i64 z m = z % 2 ^ p := by
 subst hm;have hpp : (2 : Nat) ^ p <= 2 ^ 62 := Nat.pow_le_pow_right (by omega) hp;have hpos : 0 < (2 : Nat) ^ p := Nat.pow_pos (by omega);have hcast : ((2 : Int) ^ p - 1) = ((2 ^ p - 1 : Nat) : Int) := by
  rw [Int.natCast_sub (by omega)]; simp
 have hd : (2 : Int) ^ p ∣ 2 ^ 64 := by
  refine ⟨2 ^ (64 - p), ?_⟩;rw [<- Int.pow_add]; congr 1; omega
 unfold bits;simp only [];have h1 : (BitVec.ofInt 64 z &&& BitVec.ofInt 64 (2 ^ p - 1)).toNat = (BitVec.ofInt 64 z).toNat % 2 ^ p := by
  rw [hcast, BitVec.ofInt_natCast, BitVec.toNat_and, BitVec.toNat_ofNat, Nat.mod_eq_of_lt (a := 2 ^ p - 1) (by omega), Nat.and_two_pow_sub_one_eq_mod]
 show IntKind.i64.wrap ((BitVec.ofInt 64 z &&& BitVec.ofInt 64 (2 ^ p - 1)).toNat : Int) = _;rw [h1, BitVec.toNat_ofInt];have h2 : (((z % ((2 ^ 64 : Nat) : Int)).toNat % 2 ^ p : Nat) : Int) = z % 2 ^ p := by
  rw [Int.natCast_emod, Int.toNat_of_nonneg (Int.emod_nonneg _ (by decide))];have : (((2 : Nat) ^ p : Nat) : Int) = (2 : Int) ^ p := by simp
  rw [this];exact Int.emod_emod_of_dvd z (by simpa using hd)
 rw [h2];have h3 : 0 <= z % (2 : Int) ^ p := Int.emod_nonneg _ (by have : (0 : Int) < 2 ^ p := Int.pow_pos (by omega); omega);have h4 : z % (2 : Int) ^ p < 2 ^ p := Int.emod_lt_of_pos _ (Int.pow_pos (by omega));have h5 : (2 : Int) ^ p <= 4611686018427387904 := by
  have : (((2 : Nat) ^ p : Nat) : Int) <= ((2 ^ 62 : Nat) : Int) := by exact_mod_cast hpp
  simpa using this
 exact IntWalk.i64_in _ (by omega)
end
section
open Go.RowKit Go.Lib
def Turn (S : Nat -> Prop) (w w' : World) : Prop := w'.os = w.os /\ w'.tape = w.tape /\ w'.output = w.output /\ w.heap.size <= w'.heap.size /\ ∀ k, k < w.heap.size -> ¬ S k -> w'.heap[k]? = w.heap[k]?
theorem Turn.refl (S : Nat -> Prop) (w : World) : Turn S w w := ⟨rfl, rfl, rfl, Nat.le_refl _, fun _ _ _ => rfl⟩
theorem Turn.of_below {S : Nat -> Prop} {w w' : World} (h : Below w.heap.size w w') : Turn S w w' := ⟨h.os, h.tape, h.output, h.size, fun k hk _ => h.block k hk⟩
theorem Turn.trans {S T : Nat -> Prop} {w w1 w2 : World} (h : Turn S w w1) (h2 : Turn T w1 w2) (hT : ∀ k, k < w.heap.size -> T k -> S k) : Turn S w w2 :=
 ⟨h2.1.trans h.1, h2.2.1.trans h.2.1, h2.2.2.1.trans h.2.2.1, Nat.le_trans h.2.2.2.1 h2.2.2.2.1, fun k hk hs => (h2.2.2.2.2 k (Nat.lt_of_lt_of_le hk h.2.2.2.1) (fun ht => hs (hT k hk ht))).trans (h.2.2.2.2 k hk hs)⟩
theorem Turn.below {S : Nat -> Prop} {w w' : World} {B : Nat} (h : Turn S w w') (hB : B <= w.heap.size) (hS : ∀ k, k < B -> ¬ S k) : Below B w w' := ⟨h.1, h.2.1, h.2.2.1, h.2.2.2.1, fun k hk => h.2.2.2.2 k (Nat.lt_of_lt_of_le hk hB) (hS k hk)⟩
theorem Turn.drew {S : Nat -> Prop} {w w' : World} (h : Turn S w w') : Turn S w w'.drew := ⟨h.1, h.2.1, h.2.2.1, h.2.2.2.1, h.2.2.2.2⟩
theorem Turn.setCell {S : Nat -> Prop} {w w' : World} (h : Turn S w w') {a : Addr} (ha : S a.block) (u : Value) : Turn S w (w'.setCell a u) :=
 ⟨h.1, h.2.1, h.2.2.1, by simpa using h.2.2.2.1, fun k hk hs => (Below.heap_setCell _ _ _ _ (fun e => hs (by rw [e]; exact ha))).trans (h.2.2.2.2 k hk hs)⟩
theorem Turn.cell {S : Nat -> Prop} {w w' : World} (h : Turn S w w') {p : Addr} (hp : p.block < w.heap.size) (hs : ¬ S p.block) : w'.cell? p = w.cell? p := World.cell?_of_block (h.2.2.2.2 _ hp hs)
theorem below_dn (w : World) (n : Nat) : Below w.heap.size w (w.drewN n) := ⟨rfl, rfl, rfl, Nat.le_refl _, fun _ _ => rfl⟩
theorem own_later {w w' : World} {base n size : Nat} {e : TypeId} {v : Value} {xs : List Value} (h : w.ownsRow base e size v n xs) (hb : Below w.heap.size w w') : w'.ownsRow base e size v n xs := by
 refine ⟨h.1, ?_⟩;rcases h.2 with h1 | ⟨g, cap, cur, hv, hbg, hh, hx⟩
 ·exact .inl h1
 ·exact .inr ⟨g, cap, cur, hv, hbg, (hb.block g (Array.getElem?_eq_some_iff.1 hh).1).trans hh, hx⟩
theorem own_turn {S : Nat -> Prop} {w w' : World} {base n c size : Nat} {e : TypeId} {vo : Option Addr} {xs : List Value} (h : w.ownsRow base e size (.slice vo n c) n xs) (ht : Turn S w w') (hs : ∀ g o s, vo = some ⟨g, o, s⟩ -> ¬ S g) : w'.ownsRow base e size (.slice vo n c) n xs := by
 refine ⟨h.1, ?_⟩;rcases h.2 with h1 | ⟨g, cap, cur, hv, hbg, hh, hx⟩
 ·exact .inl h1
 ·exact .inr ⟨g, cap, cur, hv, hbg, (ht.2.2.2.2 g (Array.getElem?_eq_some_iff.1 hh).1 (hs g 0 none (by cases hv; rfl))).trans hh, hx⟩
theorem own_set {w : World} {base n cap size g : Nat} {e : TypeId} {xs : List Value} (h : w.ownsRow base e size (.slice (some ⟨g, 0, none⟩) n cap) n xs) (j : Nat) (u : Value) :
  (w.setCell ⟨g, j, none⟩ u).ownsRow base e size (.slice (some ⟨g, 0, none⟩) n cap) n (xs.set j u) := by
 rcases h.2 with ⟨h0, _⟩ | ⟨g', cap', cur, hv, hb, hh, h1, h2, h3, h4⟩
 ·cases h0
 ·cases hv
  refine ⟨by simpa using h.1, .inr ⟨g, cap, cur.setIfInBounds j u, rfl, hb, ?_, h1, h2, by simpa using h3, ?_⟩⟩
  ·rw [Sort.setCell_eq]
   simp [Sort.mapBlock, Array.getElem?_modify, hh, Sort.onCells]
  ·rw [Array.toList_setIfInBounds, List.take_set, h4]
theorem own_drew {w : World} {base n size : Nat} {e : TypeId} {v : Value} {xs : List Value} (h : w.ownsRow base e size v n xs) : w.drew.ownsRow base e size v n xs := h
theorem own_block {w : World} {base g n cap size : Nat} {e : TypeId} {xs : List Value} (h : w.ownsRow base e size (.slice (some ⟨g, 0, none⟩) n cap) n xs) :
  ∃ cur : Array Value, w.heap[g]? = some (.cells cur e (0, 0)) /\ base <= g /\ n <= cap /\ cap <= maxLen /\ cur.size = cap * size /\ cur.toList.take (n * size) = xs := by
 rcases h.2 with ⟨hv, _⟩ | ⟨g', cap', cur, hv, hbg, hh, hnc, hcm, hcs, htake⟩
 ·simp only [Value.slice.injEq] at hv; cases hv.1
 ·simp only [Value.slice.injEq, Option.some.injEq, Addr.mk.injEq] at hv
  obtain ⟨⟨rfl, _⟩, _, rfl⟩ := hv;exact ⟨cur, hh, hbg, hnc, hcm, hcs, htake⟩
theorem own_take {w : World} {base g n m cap size : Nat} {e : TypeId} {xs : List Value} (h : w.ownsRow base e size (.slice (some ⟨g, 0, none⟩) n cap) n xs) (hm : m <= n) :
  w.ownsRow base e size (.slice (some ⟨g, 0, none⟩) m cap) m (xs.take (m * size)) := by
 obtain ⟨cur, hh, hbg, hnc, hcm, hcs, htake⟩ := own_block h;have hms : m * size <= n * size := Nat.mul_le_mul_right size hm;refine ⟨by rw [List.length_take, h.1]; omega, .inr ⟨g, cap, cur, rfl, hbg, hh, by omega, hcm, hcs, ?_⟩⟩;rw [<- htake, List.take_take, Nat.min_eq_left hms]
theorem own_lt {w : World} {base n c size : Nat} {e : TypeId} {vo : Option Addr} {xs : List Value} (h : w.ownsRow base e size (.slice vo n c) n xs) : ∀ g o s, vo = some ⟨g, o, s⟩ -> base <= g /\ g < w.heap.size := fun g o s e => by
 rcases h.2 with ⟨hv, _⟩ | ⟨g', cap, cur, hv, hbg, hh, _⟩
 ·simp only [Value.slice.injEq] at hv; rw [hv.1] at e; cases e
 ·simp only [Value.slice.injEq] at hv; rw [hv.1] at e; cases e; exact ⟨hbg, (Array.getElem?_eq_some_iff.1 hh).1⟩
theorem own_base {w : World} {base b2 n size : Nat} {e : TypeId} {v : Value} {xs : List Value} (h : w.ownsRow base e size v n xs) (hb : b2 <= base) : w.ownsRow b2 e size v n xs :=
 ⟨h.1, h.2.imp (fun h => h) fun ⟨g, cap, cur, hv, hbg, r⟩ => ⟨g, cap, cur, hv, by omega, r⟩⟩
theorem wf_i64 {x : Int} (h0 : -9223372036854775808 <= x) (h1 : x <= 9223372036854775807) : (Lit.int .i64 x).wf = true := by
 unfold Lit.wf; rw [Bool.and_eq_true, decide_eq_true_eq, decide_eq_true_eq]; exact ⟨h0, h1⟩
theorem wrap_in {x : Int} (h1 : -9223372036854775808 <= x) (h2 : x <= 9223372036854775807) : IntKind.i64.wrap x = x := IntWalk.i64_in _ (by omega)
end
section
open Go.RowKit Go.Lib Go.Sort
theorem info_u : (Tryz.prog.info? 35).map (fun i => (i.zero, i.size, i.bytes)) = some (some (.int .u64 0), 1, 8) := by kernel_rfl
def uV (l : List Int) : List Value := l.map (Value.int .u64)
theorem uV_len (l : List Int) : (uV l).length = l.length := by simp [uV]
theorem uV_cell (l : List Int) : ∀ u ∈ uV l, u.oneCell' = true := fun u hu => by
 obtain ⟨x, _, rfl⟩ := List.mem_map.1 hu; rfl
theorem uV_get (l : List Int) (j : Nat) (h : j < l.length) : (uV l)[j]? = some (.int .u64 (l.getD j 0)) := by simp [uV, List.getD_eq_getElem?_getD, h]
def WordsAt (w : World) (B : Nat) (ao : Option Addr) (l : List Int) : Prop :=
 0 < l.length -> ∃ b off, ao = some ⟨b, off, none⟩ /\ b < B /\ ∀ i, i < l.length -> w.cell? ⟨b, off + i, none⟩ = some (.int .u64 (l.getD i 0))
theorem WordsAt.below {w w' : World} {B : Nat} {ao : Option Addr} {l : List Int} (h : WordsAt w B ao l) {C : Nat} (hb : Below C w w') (hC : B <= C) : WordsAt w' B ao l := fun h0 => by
 obtain ⟨b, off, e, hlt, hc⟩ := h h0;exact ⟨b, off, e, hlt, fun i hi => by rw [hb.cell (p := ⟨b, _, none⟩) (show b < C by omega)]; exact hc i hi⟩
theorem WordsAt.wider {w : World} {B C : Nat} {ao : Option Addr} {l : List Int} (h : WordsAt w B ao l) (hC : B <= C) : WordsAt w C ao l := fun h0 => by
 obtain ⟨b, off, e, hlt, hc⟩ := h h0;exact ⟨b, off, e, by omega, hc⟩
def srt (l : List Int) : List Int := l.mergeSort fun x y => decide (x <= y)
def setF (l : List Int) : List Int := compactUpTo (srt l).toArray (srt l).length
theorem srt_length (l : List Int) : (srt l).length = l.length := List.length_mergeSort l
theorem cut_length (d : Array Int) (m : Nat) : (compactUpTo d m).length <= m := by
 induction m with
 | zero => simp [compactUpTo]
 | succ m ih => rw [compactUpTo_succ, List.length_append]; split <;> simp <;> omega
theorem setF_nil : setF [] = [] := by simp [setF, srt, compactUpTo]
theorem below_growU {B : Nat} {w0 w : World} {os : Array Obj} (h : Below B w0 w) (hB : B <= w.heap.size) : Below B w0 (grow w os) :=
 ⟨h.os, h.tape, h.output, by have := h.size; simp [grow]; omega, fun k hk => by rw [<- h.block k hk]; exact heap_grow_old w os (show k < w.heap.size by omega)⟩
theorem holds_own {w : World} {base n c : Nat} {ao : Option Addr} {l : List Int} (hn : 0 < n) (h : w.ownsRow base 35 1 (.slice ao n c) n (uV l)) :
  ∃ g, ao = some ⟨g, 0, none⟩ /\ base <= g /\ g < w.heap.size /\ n <= c /\ Holds encU w g 0 l.toArray := by
 obtain ⟨ao', c', e, hnc, hh⟩ := own_form h;cases e;obtain ⟨g, rfl, hb, hg, hc⟩ := hh hn;refine ⟨g, rfl, hb, hg, hnc, fun j hj => ?_⟩;have hj' : j < l.length := by simpa using hj
 refine ⟨?_, h.frozenAt _⟩;rw [hc (0 + j) _ (by rw [Nat.zero_add]; exact uV_get l j hj')];congr 2;simp [List.getD_eq_getElem?_getD, hj', getElem!_pos]
theorem words_of_holds {w : World} {g : Nat} {l : List Int} (hg : g < w.heap.size) (h : Holds encU w g 0 l.toArray) (k : Nat) (hk : k <= l.length) : WordsAt w w.heap.size (some ⟨g, 0, none⟩) (l.take k) := fun _ => by
 refine ⟨g, 0, rfl, hg, fun i hi => ?_⟩;have hi' : i < k /\ i < l.length := by simp at hi; omega
 rw [(h i (by simpa using hi'.2)).1];congr 2;simp [List.getD_eq_getElem?_getD, hi'.1, hi'.2, getElem!_pos]
def hasF (l : List Int) (x : Int) : Bool := l.contains x
theorem hasF_yes {l : List Int} {x : Int} {j : Nat} (hj : j < l.length) (h : l.getD j 0 = x) : hasF l x = true := by
 unfold hasF;rw [List.contains_iff_mem];rw [<- h, List.getD_eq_getElem?_getD, List.getElem?_eq_getElem hj, Option.getD_some];exact List.getElem_mem _
theorem hasF_no {l : List Int} {x : Int} (h : ∀ j, j < l.length -> l.getD j 0 ≠ x) : hasF l x = false := by
 unfold hasF;rw [Bool.eq_false_iff, ne_eq, List.contains_iff_mem];intro hm;obtain ⟨j, hj, e⟩ := List.getElem_of_mem hm;exact h j hj (by rw [List.getD_eq_getElem?_getD, List.getElem?_eq_getElem hj, Option.getD_some, e])
def Rising (l : List Int) : Prop := ∀ i j, i <= j -> j < l.length -> l.getD i 0 <= l.getD j 0
theorem rhas_any (ao : Option Addr) (c : Nat) (l : List Int) (x : Int) (w : World) (B : Nat) (h : WordsAt w B ao l) (hn : l.length <= 1000000000) (hr : Rising l) :
  Calls Tryz.prog 13 #[.slice ao l.length c, .int .u64 x] w fun e w' => e = .returned (.bool (hasF l x)) /\ w = w' := by
 obtain ⟨n, hnn⟩ : ∃ n, l.length = n := ⟨_, rfl⟩;have HN := Lib.hid hnn;have HW := Lib.hid h;have HR := Lib.hid hr;rw [hnn] at hn ⊢;clear hnn h hr
 go_enter Tryz.func13, Tryz.ntmps13
 go_wp2
 go_loop [5, 6] (fun i j => ∃ lo hi : Nat, lo <= hi /\ hi <= n /\ i = .int .i64 lo /\ j = .int .i64 hi /\ Hid ((∀ k, k < lo -> l.getD k 0 < x) /\ ∀ k, hi <= k -> k < n -> x <= l.getD k 0)) (fun i j => (intOf j).toNat - (intOf i).toNat)
 case atStart => exact ⟨0, n, Nat.zero_le _, Nat.le_refl _, rfl, rfl, fun k hk => by omega, fun k h1 h2 => by omega⟩
 case round =>
  obtain ⟨lo, hi, h1, h2, rfl, rfl, HA⟩ := hrel;by_cases hlt : lo < hi
  ·obtain ⟨b, off, rfl, hb, hc⟩ := HW.out (by rw [HN.out]; omega)
   obtain ⟨m, hm⟩ : ∃ m, (lo + hi) / 2 = m := ⟨_, rfl⟩;have hm1 : lo <= m := by omega
   have hm2 : m < hi := by omega
   have hmI : ((lo : Int) + (hi : Int)) / 2 = (m : Int) := by omega
   have c0 := hc m (by rw [HN.out]; omega);have HL1 : Hid (l.getD m 0 < x -> ∀ k, k < m + 1 -> l.getD k 0 < x) := fun e k hk => by
    have := HR.out k m (by omega) (by rw [HN.out]; omega);omega
   have HL2 : Hid (¬ l.getD m 0 < x -> ∀ k, m <= k -> k < n -> x <= l.getD k 0) := fun e k h3 h4 => by
    have := HR.out m k h3 (by rw [HN.out]; exact h4);omega
   generalize l.getD m 0 = y at c0 HL1 HL2;clear hc hm;by_cases hyx : y < x
   ·have HLL := Lib.hid (HL1.out hyx)
    clear HL1 HL2;go_wp2
    go_round
    case rel => exact ⟨m + 1, hi, by omega, h2, by go_num, rfl, HLL.out, HA.out.2⟩
    case measure => simp [intOf]; omega
   ·have HLL := Lib.hid (HL2.out hyx)
    clear HL1 HL2;go_wp2
    go_round
    case rel => exact ⟨lo, m, by omega, by omega, rfl, by go_num, HA.out.1, HLL.out⟩
    case measure => simp [intOf]; omega
  ·obtain rfl : lo = hi := by omega
   by_cases hln : lo < n
   ·obtain ⟨b, off, rfl, hb, hc⟩ := HW.out (by rw [HN.out]; omega)
    have c0 := hc lo (by rw [HN.out]; exact hln);have HF : Hid ((l.getD lo 0 == x) = hasF l x) := by
     show _ = _;by_cases e : l.getD lo 0 = x
     ·rw [hasF_yes (by rw [HN.out]; exact hln) e]; simpa using e
     ·rw [hasF_no fun j hj => by
       rw [HN.out] at hj;by_cases hjl : j < lo
       ·have := HA.out.1 j hjl; omega
       ·have h3 := HA.out.2 lo (Nat.le_refl _) hln
        have h4 := HR.out lo j (by omega) (by rw [HN.out]; exact hj);omega]
      simpa using e
    generalize l.getD lo 0 = y at c0 HF;clear hc;have q0 : decide ((lo : Int) < (n : Int)) = true := by simp; omega
    go_wp2;go_ret;exact ⟨ret_bool HF.out, rfl⟩
   ·obtain rfl : lo = n := by omega
    have HF : Hid (hasF l x = false) := hasF_no fun j hj => by
     rw [HN.out] at hj;have := HA.out.1 j hj;omega
    have q0 : decide ((lo : Int) < (lo : Int)) = false := by simp
    go_wp2;go_ret;exact ⟨ret_bool HF.out.symm, rfl⟩
def Up (l : List Int) : Prop := l.Pairwise (· < ·)
theorem getD_mem {l : List Int} {j : Nat} (h : j < l.length) : l.getD j 0 ∈ l := by
 rw [List.getD_eq_getElem?_getD, List.getElem?_eq_getElem h, Option.getD_some]; exact List.getElem_mem h
theorem hasF_iff (l : List Int) (x : Int) : hasF l x = true ↔ x ∈ l := by unfold hasF; exact List.contains_iff_mem
theorem srt_mem (l : List Int) (x : Int) : x ∈ srt l ↔ x ∈ l := List.mem_mergeSort
theorem srt_sorted (l : List Int) : (srt l).Pairwise (· <= ·) := by
 have := List.pairwise_mergeSort (le := fun x y : Int => decide (x <= y)) (fun a b c h1 h2 => by simp at *; omega) (fun a b => by simp; omega) l;exact this.imp fun h => by simpa using h
theorem cut_mem (d : Array Int) (x : Int) : ∀ m, m <= d.size -> (x ∈ compactUpTo d m ↔ ∃ j, j < m /\ d[j]! = x)
 | 0, _ => by simp [compactUpTo]
 | m + 1, h => by
  rw [compactUpTo_succ, List.mem_append, cut_mem d x m (by omega)];by_cases hk : 0 < m /\ d[m]! = d[m - 1]!
  ·rw [keeps_neg hk.1 hk.2]
   simp only [Bool.false_eq_true, if_false, List.not_mem_nil, or_false];constructor
   ·rintro ⟨j, hj, e⟩; exact ⟨j, by omega, e⟩
   ·rintro ⟨j, hj, e⟩
    by_cases ej : j = m
    ·subst ej; exact ⟨j - 1, by omega, by rw [<- hk.2]; exact e⟩
    ·exact ⟨j, by omega, e⟩
  ·have hkk : keeps d m = true := by
    by_cases h0 : m = 0
    ·exact keeps_lt_one d m (by omega)
    ·exact keeps_pos fun e => hk ⟨by omega, e⟩
   rw [hkk];simp only [if_true, List.mem_singleton];constructor
   ·rintro (⟨j, hj, e⟩ | e)
    ·exact ⟨j, by omega, e⟩
    ·exact ⟨m, by omega, e.symm⟩
   ·rintro ⟨j, hj, e⟩
    by_cases ej : j = m
    ·subst ej; exact .inr e.symm
    ·exact .inl ⟨j, by omega, e⟩
theorem cut_up (d : Array Int) (hs : ∀ i j, i <= j -> j < d.size -> d[i]! <= d[j]!) : ∀ m, m <= d.size -> Up (compactUpTo d m)
 | 0, _ => by simp [compactUpTo, Up]
 | m + 1, h => by
  rw [compactUpTo_succ];have ih := cut_up d hs m (by omega);by_cases hk : 0 < m /\ d[m]! = d[m - 1]!
  ·rw [keeps_neg hk.1 hk.2]; simpa using ih
  ·have hkk : keeps d m = true := by
    by_cases h0 : m = 0
    ·exact keeps_lt_one d m (by omega)
    ·exact keeps_pos fun e => hk ⟨by omega, e⟩
   rw [hkk];simp only [if_true];unfold Up at *;rw [List.pairwise_append];refine ⟨ih, by simp, fun a ha b hb => ?_⟩;obtain rfl : b = d[m]! := by simpa using hb
   obtain ⟨j, hj, e⟩ := (cut_mem d a m (by omega)).1 ha;have h1 := hs j (m - 1) (by omega) (by omega);have h2 := hs (m - 1) m (by omega) (by omega);have h3 : d[m]! ≠ d[m - 1]! := fun e => hk ⟨by omega, e⟩
   omega
theorem arr_get (l : List Int) (j : Nat) (h : j < l.length) : l.toArray[j]! = l.getD j 0 := by simp [List.getD_eq_getElem?_getD, h, getElem!_pos]
theorem sorted_getD {l : List Int} (h : l.Pairwise (· <= ·)) : ∀ i j, i <= j -> j < l.length -> l.getD i 0 <= l.getD j 0 := fun i j hij hj => by
 rw [List.getD_eq_getElem?_getD, List.getD_eq_getElem?_getD, List.getElem?_eq_getElem hj, List.getElem?_eq_getElem (by omega), Option.getD_some, Option.getD_some];by_cases e : i = j
 ·subst e; exact Int.le_refl _
 ·exact List.pairwise_iff_getElem.1 h i j (by omega) hj (by omega)
theorem setF_up (l : List Int) : Up (setF l) := by
 unfold setF;refine cut_up _ (fun i j hij hj => ?_) _ (by simp);have hj' : j < (srt l).length := by simpa using hj
 rw [arr_get _ i (by omega), arr_get _ j hj'];exact sorted_getD (srt_sorted l) i j hij hj'
theorem setF_mem (l : List Int) (x : Int) : x ∈ setF l ↔ x ∈ l := by
 unfold setF;rw [cut_mem _ _ _ (by simp), <- srt_mem l x];constructor
 ·rintro ⟨j, hj, rfl⟩; rw [arr_get _ j hj]; exact getD_mem hj
 ·intro h
  obtain ⟨j, hj, e⟩ := List.getElem_of_mem h;exact ⟨j, hj, by rw [arr_get _ j hj, List.getD_eq_getElem?_getD, List.getElem?_eq_getElem hj, Option.getD_some, e]⟩
theorem Up.rising {l : List Int} (h : Up l) : Rising l := fun i j hij hj => sorted_getD (h.imp fun h => by omega) i j hij hj
theorem Up.ext : ∀ {l m : List Int}, Up l -> Up m -> (∀ x, x ∈ l ↔ x ∈ m) -> l = m
 | [], [], _, _, _ => rfl
 | [], b :: m, _, _, h => absurd ((h b).2 (by simp)) (by simp)
 | a :: l, [], _, _, h => absurd ((h a).1 (by simp)) (by simp)
 | a :: l, b :: m, h1, h2, h => by
  unfold Up at *;rw [List.pairwise_cons] at h1 h2;have hab : a = b := by
   have p1 := (h a).1 (by simp);have p2 := (h b).2 (by simp);rcases List.mem_cons.1 p1 with e | p1
   ·exact e
   ·rcases List.mem_cons.1 p2 with e | p2
    ·exact e.symm
    ·have := h1.1 _ p2; have := h2.1 _ p1; omega
  subst hab;congr 1;refine Up.ext h1.2 h2.2 fun x => ⟨fun hx => ?_, fun hx => ?_⟩
  ·rcases List.mem_cons.1 ((h x).1 (by simp [hx])) with e | p
   ·have := h1.1 _ hx; omega
   ·exact p
  ·rcases List.mem_cons.1 ((h x).2 (by simp [hx])) with e | p
   ·have := h2.1 _ hx; omega
   ·exact p
theorem setF_length (l : List Int) : (setF l).length <= l.length := by
 unfold setF;exact Nat.le_trans (cut_length _ _) (Nat.le_of_eq (srt_length l))
theorem filter_up {l : List Int} (h : Up l) (p : Int -> Bool) : Up (l.filter p) := h.filter p
theorem setF_up_eq {l : List Int} (h : Up l) : setF l = l := (setF_up l).ext h fun x => setF_mem l x
theorem uV_snoc (l : List Int) (x : Int) : uV (l ++ [x]) = uV l ++ [.int .u64 x] := by simp [uV]
theorem words_own {w : World} {base n c : Nat} {ao : Option Addr} {l : List Int} (hn : n = l.length) (h : w.ownsRow base 35 1 (.slice ao n c) n (uV l)) : WordsAt w w.heap.size ao l := fun h0 => by
 subst hn;obtain ⟨ao', c', e, _, hh⟩ := own_form h;cases e;obtain ⟨g, rfl, _, hg, hc⟩ := hh h0;exact ⟨g, 0, rfl, hg, fun i hi => by rw [hc (0 + i) _ (by rw [Nat.zero_add]; exact uV_get l i hi)]⟩
theorem same_any (ao bo : Option Addr) (c d : Nat) (a b : List Int) (w : World) (B C : Nat) (ha : WordsAt w B ao a) (hb : WordsAt w C bo b) (hna : a.length <= 1000000000) :
  Calls Tryz.prog 10 #[.slice ao a.length c, .slice bo b.length d] w fun e w' => e = .returned (.bool (decide (a = b))) /\ Below w.heap.size w w' := by
 obtain ⟨r, hr⟩ : ∃ r : Bool, decide (a = b) = r := ⟨_, rfl⟩;rw [hr];by_cases hl : a.length = b.length
 ·obtain ⟨n, hn⟩ : ∃ n, a.length = n := ⟨_, rfl⟩
  rw [<- hl, hn];rw [hn] at hna;have HA := Lib.hid ha;have HB := Lib.hid hb;have HN := Lib.hid hn;have HL : Hid (b.length = n) := by show _ = _; rw [<- hl, hn]
  have HR := Lib.hid hr;have q0 : ((n : Int) != (n : Int)) = false := by simp
  clear ha hb hl hn hr
  go_enter Tryz.func10, Tryz.ntmps10
  go_wp2
  go_loopw [5] (fun i wr => ∃ k : Nat, k <= n /\ i = .int .i64 k /\ Hid (∀ j, j < k -> a.getD j 0 = b.getD j 0) /\ Below w.heap.size w wr /\ Hid (∀ x, wr.cell? x = w.cell? x)) (fun i _ => n - (intOf i).toNat)
  case atStart => exact ⟨0, Nat.zero_le _, rfl, fun j hj => by omega, Below.refl _ _, fun x => rfl⟩
  case round =>
   obtain ⟨k, hk, rfl, HE, hnx, HCA⟩ := hrel;by_cases hlt : k < n
   ·obtain ⟨g, off, rfl, hg, hc⟩ := HA.out (by rw [HN.out]; omega)
    obtain ⟨g2, off2, rfl, hg2, hc2⟩ := HB.out (by rw [HL.out]; omega);have c0 := (HCA.out _).trans (hc k (by rw [HN.out]; exact hlt));have c1 := (HCA.out _).trans (hc2 k (by rw [HL.out]; exact hlt));have hg' := World.block_lt_of_cell? wr _ c0;have hg2' := World.block_lt_of_cell? wr _ c1;have HNO : Hid (a.getD k 0 ≠ b.getD k 0 -> r = false) := fun h => by rw [<- HR.out]; simp; intro e; exact h (by rw [e])
    have HYES : Hid (a.getD k 0 = b.getD k 0 -> ∀ j, j < k + 1 -> a.getD j 0 = b.getD j 0) := fun h j hj => by
     by_cases e : j = k
     ·rw [e]; exact h
     ·exact HE.out j (by omega)
    generalize a.getD k 0 = x at c0 HNO HYES;generalize b.getD k 0 = y at c1 HNO HYES;clear hc hc2;dsimp only at hg' hg2';by_cases hxy : x = y
    ·have hq : (x != y) = false := by simpa using hxy
     have HY := Lib.hid (HYES.out hxy);clear hxy HNO HYES;go_wp2
     go_quiet (fail)
     go_wp2
     go_roundw
     case rel => exact ⟨k + 1, by omega, by go_num, HY.out, below_drewN hnx _, fun x => HCA.out x⟩
     case measure => simp [intOf]; omega
    ·have hq : (x != y) = true := by simpa using hxy
     have HY := Lib.hid (HNO.out hxy);clear hxy HNO HYES;go_wp2
     go_quiet (fail)
     go_wp2;go_ret;exact ⟨ret_bool HY.out.symm, below_drewN hnx _⟩
   ·obtain rfl : k = n := by omega
    have HT : Hid (r = true) := by
     show _ = _;rw [<- HR.out];simp only [decide_eq_true_eq];refine List.ext_getElem (by rw [HN.out, HL.out]) fun i h1 h2 => ?_
     have := HE.out i (by rw [HN.out] at h1; exact h1)
     rwa [List.getD_eq_getElem?_getD, List.getD_eq_getElem?_getD, List.getElem?_eq_getElem h1, List.getElem?_eq_getElem h2, Option.getD_some, Option.getD_some] at this
    go_wp2;go_ret;exact ⟨ret_bool HT.out.symm, hnx⟩
 ·have HF : Hid (r = false) := by show _ = _; rw [<- hr]; simp; intro e; exact hl (by rw [e])
  have q0 : ((a.length : Int) != (b.length : Int)) = true := by simp; omega
  clear hr ha hb
  go_enter Tryz.func10, Tryz.ntmps10
  go_wp2;go_ret;exact ⟨ret_bool HF.out.symm, Below.refl _ _⟩
theorem take_one {l : List Int} {k : Nat} (h : k < l.length) : l.take (k + 1) = l.take k ++ [l.getD k 0] := by
 rw [List.take_succ_eq_append_getElem h, List.getD_eq_getElem?_getD, List.getElem?_eq_getElem h, Option.getD_some]
theorem setF_old {l : List Int} {k : Nat} (h : k < l.length) (hm : l.getD k 0 ∈ setF (l.take k)) : setF (l.take (k + 1)) = setF (l.take k) := by
 refine (setF_up _).ext (setF_up _) fun x => ?_
 rw [setF_mem, setF_mem, take_one h, List.mem_append, List.mem_singleton];rw [setF_mem] at hm;constructor
 ·rintro (h1 | rfl)
  ·exact h1
  ·exact hm
 ·exact Or.inl
theorem setF_put {l s : List Int} {k lo : Nat} (h : k < l.length) (hs : setF (l.take k) = s) (h1 : ∀ j, j < lo -> s.getD j 0 < l.getD k 0) (h2 : ∀ j, lo <= j -> j < s.length -> l.getD k 0 < s.getD j 0) :
  setF (l.take (k + 1)) = s.take lo ++ l.getD k 0 :: s.drop lo := by
 have hu : Up s := by rw [<- hs]; exact setF_up _
 refine (setF_up _).ext ?_ fun x => ?_
 ·refine List.pairwise_append.2 ⟨hu.take, List.pairwise_cons.2 ⟨fun y hy => ?_, hu.drop⟩, fun y hy z hz => ?_⟩
  ·obtain ⟨j, hj, rfl⟩ := List.getElem_of_mem hy
   have hj' : lo + j < s.length := by simp at hj; omega
   have := h2 (lo + j) (by omega) hj';rw [List.getElem_drop]
   rwa [List.getD_eq_getElem?_getD (l := s), List.getElem?_eq_getElem hj', Option.getD_some] at this
  ·have hy2 : y < l.getD k 0 := by
    obtain ⟨j, hj, rfl⟩ := List.getElem_of_mem hy;have hj' : j < lo /\ j < s.length := by simp at hj; omega
    have := h1 j hj'.1;rw [List.getElem_take]
    rwa [List.getD_eq_getElem?_getD (l := s), List.getElem?_eq_getElem hj'.2, Option.getD_some] at this
   rcases List.mem_cons.1 hz with rfl | hz
   ·exact hy2
   ·obtain ⟨j, hj, rfl⟩ := List.getElem_of_mem hz
    have hj' : lo + j < s.length := by simp at hj; omega
    have := h2 (lo + j) (by omega) hj';rw [List.getElem_drop];rw [List.getD_eq_getElem?_getD (l := s), List.getElem?_eq_getElem hj', Option.getD_some] at this;omega
 ·rw [setF_mem, take_one h, List.mem_append, List.mem_singleton, List.mem_append, List.mem_cons, <- setF_mem (l.take k), hs]
  conv => lhs; rw [<- List.take_append_drop lo s]
  rw [List.mem_append];constructor
  ·rintro ((h | h) | h)
   ·exact .inl h
   ·exact .inr (.inr h)
   ·exact .inr (.inl h)
  ·rintro (h | h | h)
   ·exact .inl (.inl h)
   ·exact .inr h
   ·exact .inl (.inr h)
theorem own_put {w : World} {base g cap m lo : Nat} {s : List Int} {x : Int} {cur : List Value} (hb : base <= g) (hl : s.length = m) (hlo : lo <= m) (hm : m + 1 <= cap) (hc : cap <= maxLen) (hcur : cur.length = cap) (htk : cur.take (m + 1) = uV s ++ [.int .u64 0])
  (h : w.heap[g]? = some (.cells (splice cur (lo + 1) (uV (s.drop lo))).toArray 35 (0, 0))) :
  (w.setCell ⟨g, lo, none⟩ (.int .u64 x)).ownsRow base 35 1 (.slice (some ⟨g, 0, none⟩) (m + 1) cap) (m + 1) (uV (s.take lo ++ x :: s.drop lo)) := by
 have hsz : (splice cur (lo + 1) (uV (s.drop lo))).length = cap := by rw [length_splice _ _ _ (by rw [uV_len, List.length_drop]; omega)]; exact hcur
 have hh : (w.setCell ⟨g, lo, none⟩ (.int .u64 x)).heap[g]? = some (.cells ((splice cur (lo + 1) (uV (s.drop lo))).toArray.setIfInBounds lo (.int .u64 x)) 35 (0, 0)) := by
  rw [setCell_eq];simp [mapBlock, Array.getElem?_modify, h, onCells]
 refine ⟨by rw [uV_len, List.length_append, List.length_cons, List.length_take, List.length_drop]; omega, .inr ⟨g, cap, _, rfl, hb, hh, hm, hc, by simpa using hsz, ?_⟩⟩;have hs0 : cur.take lo = uV (s.take lo) := by
  have : (cur.take (m + 1)).take lo = (uV s ++ [Value.int .u64 0]).take lo := by rw [htk]
  rw [List.take_take, Nat.min_eq_left (by omega), List.take_append_of_le_length (by rw [uV_len]; omega)] at this;rw [this]; simp [uV, List.map_take]
 apply List.ext_getElem?;intro j;rw [Nat.mul_one];by_cases hj : j < m + 1
 ·rw [List.getElem?_take_of_lt hj, Array.getElem?_toList, Array.getElem?_setIfInBounds]
  by_cases e : lo = j
  ·subst e
   rw [if_pos rfl, if_pos (by rw [List.size_toArray, hsz]; omega)];simp [uV, hl, hlo]
  ·rw [if_neg e, List.getElem?_toArray]
   unfold splice;have huv : uV (s.take lo ++ x :: s.drop lo) = uV (s.take lo) ++ .int .u64 x :: uV (s.drop lo) := by simp [uV]
   rw [huv];have h2 : (uV (s.take lo)).length = lo := by rw [uV_len, List.length_take]; omega
   rcases Nat.lt_or_gt_of_ne e with h3 | h3
   ·have hA : (cur.take (lo + 1)).length = lo + 1 := by rw [List.length_take]; omega
    rw [List.getElem?_append_right (l₁ := cur.take (lo + 1)) (by rw [hA]; omega), hA, List.getElem?_append_right (l₁ := uV (s.take lo)) (by rw [h2]; omega), h2, List.getElem?_append_left (by rw [uV_len, List.length_drop]; omega)];obtain ⟨i, hi⟩ : ∃ i, j - lo = i + 1 := ⟨j - lo - 1, by omega⟩;rw [hi, List.getElem?_cons_succ];congr 1;omega
   ·rw [List.getElem?_append_left (by rw [List.length_take]; omega), List.getElem?_append_left (by omega), List.getElem?_take_of_lt (by omega), <- hs0, List.getElem?_take_of_lt h3]
 ·rw [List.getElem?_take_eq_none (by omega), List.getElem?_eq_none (by rw [uV_len, List.length_append, List.length_cons, List.length_take, List.length_drop]; omega)]
theorem cell_heap {X w : World} (h : X.heap = w.heap) (a : Addr) : X.cell? a = w.cell? a := World.cell?_of_block (by rw [h])
theorem words_heap {X w : World} (h : X.heap = w.heap) {B : Nat} {ao : Option Addr} {l : List Int} (hw : WordsAt w B ao l) : WordsAt X B ao l := fun h0 => by
 obtain ⟨b, off, e, hlt, hc⟩ := hw h0;exact ⟨b, off, e, hlt, fun i hi => by rw [cell_heap h]; exact hc i hi⟩
theorem own_heap {X w : World} (h : X.heap = w.heap) {base n size : Nat} {e : TypeId} {v : Value} {xs : List Value} (ho : w.ownsRow base e size v n xs) : X.ownsRow base e size v n xs := by
 unfold World.ownsRow; rw [h]; exact ho
theorem uclone_any (b off c : Nat) (l : List Int) (w : World) (hl : l.length <= 1000000000) (hc : ∀ i, i < l.length -> w.cell? ⟨b, off + i, none⟩ = some (.int .u64 (l.getD i 0))) :
  Calls Tryz.prog 125 #[.slice (some ⟨b, off, none⟩) l.length c] w fun e w' => ∃ v', e = .returned v' /\ w'.ownsRow w.heap.size 35 1 v' l.length (uV l) /\ Below w.heap.size w w' := by
 obtain ⟨i0, hi, hz0, hz1, hz2⟩ := info_parts info_u;have q22 : ∀ (w : World) (a : Option Addr) (n c n' c' : Nat), (binOp .eql 22 (.slice a n c) (.slice none n' c')).run Tryz.prog w = .ok (.bool a.isNone) w := fun w a n c n' c' => Lib.run_eql_slice_nil w _ _ a n c n' c' Tryz.underlying22
 have A : Aside (∀ j u, (uV l)[j]? = some u -> w.cell? ⟨b, off + j, none⟩ = some u) := fun j u hj => by
  have hjl : j < l.length := by have := (List.getElem?_eq_some_iff.1 hj).1; rwa [uV_len] at this
  rw [uV_get l j hjl] at hj;cases hj;exact hc j hjl
 clear hc
 go_enter Tryz.func125, Tryz.ntmps125
 go_wp2_with (at_builtin; refine wpList_append_own _ rfl _ _ 22 rfl w.heap.size 35 i0 (.int .u64 0) 1 8 Tryz.underlying22 hi hz0 hz1 hz2 rfl (by decide) _ _ _ rfl (World.ownsRow_made w #[] 0 (Nat.le_refl _) (Nat.zero_le _) (by simp)) ⟨b, off, none⟩ l.length c (uV l) rfl ?qc1 ?qc2 ?qc3 ?qc4 ?qc5 ?qc6 ?_)
 case qc1 => rw [uV_len, Nat.mul_one]
 case qc2 =>
  intro j u hj;rw [Addr.add_lit];exact Lib.cell?_alloc_some _ (A.out j u hj)
 case qc3 => exact uV_cell l
 case qc4 => rw [Nat.zero_add]; unfold maxLen; omega
 case qc5 => rw [Nat.zero_add]; omega
 case qc6 => simp
 intro v' w1 hown hgrow hnil;go_wp2;go_ret;exact ⟨v', rfl, by simpa using hown, ((Below.refl _ w).alloc (Nat.le_refl _) _).grown hgrow (by simp) (by intro k hk; simp [Value.ownBlock] at hk; omega)⟩
theorem store_world_u {w wr : World} {n blk off : Nat} {dk : Array Int} {i : Nat} (hi : i < dk.size) (hwr : wr = putRow encU (Sort.ahead w n) blk off dk) (x : Int) :
  (wr.setCell ⟨blk, off + i, none⟩ (encU x)).drew = putRow encU (Sort.ahead w (n + 1)) blk off (dk.setIfInBounds i x) := by
 subst hwr;rw [putRow_set encU _ blk off dk i x hi, <- ahead_drew]
 rfl
theorem ucompact_any (blk off cap : Nat) (d : Array Int) (w : World) (hH : Holds encU w blk off d) (hsz : d.size <= 9223372036854775807) (hcap : d.size <= cap) :
  Calls Tryz.prog 127 #[.slice (some ⟨blk, off, none⟩) d.size cap] w fun e w' => e = .returned (.slice (some ⟨blk, off, none⟩) (compactUpTo d d.size).length cap) /\ ∃ q, w' = putRow encU (Sort.ahead w q) blk off (compactUpTo d d.size ++ List.replicate (d.size - (compactUpTo d d.size).length) 0).toArray := by
 have v23 : ∀ w, (zeroValue 35).run Tryz.prog w = .ok (.int .u64 0) w := fun _ => by kernel_rfl
 have same : ∀ q, (∀ j, j < d.size -> keeps d j = true) -> (compactUpTo d d.size).length = d.size /\ w.drewN q = putRow encU (Sort.ahead w q) blk off (compactUpTo d d.size ++ List.replicate (d.size - (compactUpTo d d.size).length) 0).toArray := by
  intro q hall;have e : compactUpTo d d.size = d.toList := by rw [compactUpTo_all d _ hall, range_map_get]
  rw [e];refine ⟨by simp, ?_⟩;simp only [Array.length_toList, Nat.sub_self, List.replicate_zero, List.append_nil, Array.toArray_toList];exact (putRow_self encU (Sort.ahead w q) blk off d (holds_ahead encU w q blk off d hH)).symm
 have HS : Aside (∀ q, (∀ j, j < d.size -> keeps d j = true) -> (compactUpTo d d.size).length = d.size /\ w.drewN q = putRow encU (Sort.ahead w q) blk off (compactUpTo d d.size ++ List.replicate (d.size - (compactUpTo d d.size).length) 0).toArray) := same;clear same;by_cases h2 : d.size < 2
 ·have HH : Aside (Holds encU w blk off d) := hH
  clear hH
  go_enter Tryz.func127, Tryz.ntmps127
  go_wp2;go_ret;obtain ⟨e1, e2⟩ := HS.out 0 (fun j hj => keeps_lt_one d j (by omega));exact ⟨by rw [e1]; rfl, 0, e2⟩
 ·go_enter Tryz.func127, Tryz.ntmps127
  go_wp2
  go_loopg [3] d.size (fun g s3 wr => ∃ k q : Nat, 1 <= k /\ k <= d.size /\ d.size - k <= g /\ s3 = .int .i64 k /\ wr = w.drewN q /\ ∀ j, j < k -> keeps d j = true)
  case atStart => exact ⟨1, 0, Nat.le_refl _, by omega, by omega, rfl, rfl, keeps_lt_one d⟩
  case round =>
   obtain ⟨k, q, hk1, hk, hg, rfl, rfl, hall⟩ := hrel;by_cases hlt : k < d.size
   ·obtain ⟨c1, f1⟩ := hH k hlt
    obtain ⟨c0, f0⟩ := hH (k - 1) (by omega);have A : Aside (∀ j, j < k -> keeps d j = true) := hall;have HH : Aside (Holds encU w blk off d) := hH;clear hall hH;generalize hx : d[k]! = x at c1;generalize hy : d[k - 1]! = y at c0;have B : Aside (d[k]! = x /\ d[k - 1]! = y) := ⟨hx, hy⟩;clear hx hy;by_cases hdup : x = y
    ·subst hdup
     go_wp2_with fail
     go_region
     go_wp2;clear c0 c1 f0 f1
     go_loopg [3, 5] d.size (fun g s3 s5 wr => ∃ (kk k2 q2 : Nat) (dk : Array Int), s3 = .int .i64 kk /\ s5 = .int .i64 k2 /\ 1 <= k2 /\ k + k2 <= d.size /\ d.size - (k + k2) <= g /\ wr = putRow encU (Sort.ahead w q2) blk off dk /\ CompInv d (k + k2) kk dk)
     case atStart => exact ⟨k, 1, q + 1, d, rfl, rfl, Nat.le_refl _, by omega, by omega, (putRow_self encU (Sort.ahead w (q + 1)) blk off d (holds_ahead encU w (q + 1) blk off d HH.out)).symm, CompInv.start A.out (keeps_neg (by omega) (by rw [B.out.1, B.out.2]))⟩
     case round =>
      obtain ⟨kk, k2, q2, dk, rfl, rfl, h1, hle, hg2, hwr, hI⟩ := hrel;have hkk := hI.lt;have hds := hI.size;have hHk : Holds encU wr blk off dk := by rw [hwr]; exact holds_putRow encU _ blk off d dk (holds_ahead encU w q2 blk off d HH.out) hds
      have W2 : Aside (wr = putRow encU (Sort.ahead w q2) blk off dk) := hwr;have I2 : Aside (CompInv d (k + k2) kk dk) := hI;clear hwr;by_cases hlt2 : k + k2 < d.size
      ·obtain ⟨cm, _⟩ := hHk (k + k2) (by omega)
       obtain ⟨cp, _⟩ := hHk (k + k2 - 1) (by omega);obtain ⟨ck, fk⟩ := hHk kk (by omega);rw [hI.high (k + k2) (by omega), show off + (k + k2) = off + k + k2 by omega] at cm;rw [hI.high (k + k2 - 1) (by omega), show off + (k + k2 - 1) = off + k + (k2 - 1) by omega] at cp;clear hHk hI;generalize hu : d[k + k2]! = u at cm;generalize hv : d[k + k2 - 1]! = v at cp;generalize dk[kk]! = old at ck;have C : Aside (d[k + k2]! = u /\ d[k + k2 - 1]! = v) := ⟨hu, hv⟩;clear hu hv;by_cases huv : u = v
       ·subst huv
        go_wp2_with fail
        go_region
        go_wp2
        go_roundg (d.size - (k + (k2 + 1)))
        case measure => omega
        case rel => exact ⟨kk, k2 + 1, q2 + 1, dk, rfl, by go_num, by omega, by omega, Nat.le_refl _, by rw [W2.out]; rfl, I2.out.skip (keeps_neg (by omega) (by rw [C.out.1, C.out.2]))⟩
       ·go_wp2_with fail
        go_region
        go_wp2
        go_roundg (d.size - (k + (k2 + 1)))
        case measure => omega
        case rel => exact ⟨kk + 1, k2 + 1, q2 + 1, dk.setIfInBounds kk u, by go_num, by go_num, by omega, by omega, Nat.le_refl _, store_world_u (by omega) W2.out u, by have := I2.out.keep hlt2 (keeps_pos (by rw [C.out.1, C.out.2]; exact huv)); rwa [C.out.1] at this⟩
      ·have hend : k + k2 = d.size := by omega
       have hcl : ∀ ty, (Builtin.clear_ #[22] ty #[.slice (some ⟨blk, off + kk, none⟩) (d.size - kk) (cap - kk)]).run Tryz.prog wr = .ok (.tuple #[]) (wr.setCells blk (off + kk) (List.replicate (d.size - kk) (encU 0))) :=
        fun ty => Lib.run_clear_slice wr _ _ ty _ Tryz.underlying22 v23 rfl rfl blk (off + kk) _ _ (by omega) (fun j hj => by rw [show off + kk + j = off + (kk + j) by omega, (hHk (kk + j) (by omega)).1]; rfl) (fun j hj => by rw [show off + kk + j = off + (kk + j) by omega]; exact (hHk (kk + j) (by omega)).2)
       clear hHk hI;go_wp2;go_ret;have hI := I2.out;rw [hend] at hI;refine ⟨by rw [hI.len]; rfl, q2, ?_⟩;rw [hI.len, <- hI.done 0, <- putRow_setCells encU _ blk off _ dk kk (by simp; omega), <- W2.out, List.map_replicate]
    ·go_wp2_with fail
     go_region
     go_wp2
     go_roundg (d.size - (k + 1))
     case measure => omega
     case rel =>
      refine ⟨k + 1, q + 1, by omega, by omega, Nat.le_refl _, by go_num, rfl, fun j hj => ?_⟩;by_cases e : j = k
      ·subst e
       exact keeps_pos (by rw [B.out.1, B.out.2]; exact hdup)
      ·exact A.out j (by omega)
   ·have : k = d.size := by omega
    subst this;have HH : Aside (Holds encU w blk off d) := hH;clear hH;go_wp2;go_ret;obtain ⟨e1, e2⟩ := HS.out q hall;exact ⟨by rw [e1]; rfl, q, e2⟩
theorem unan_any (x : Int) (w : World) : Calls Tryz.prog 77 #[.int .u64 x] w fun e w' => e = .returned (.bool false) /\ w = w' := by
 go_enter Tryz.func77, Tryz.ntmps77
 go_wp2;go_ret;exact ⟨by simp, rfl⟩
def Found (l : List Int) (x : Int) (w : World) (e : Ending) (w' : World) : Prop := ∃ p : Int, e = .returned (.tuple #[.int .i64 p, .bool (hasF l x)]) /\ w = w'
end
section
open Go.RowKit Go.Lib
def AskU (g : Nat) (cb : Array Value) (p : Int -> Bool) (w : World) (blk : Nat) (l : List Int) : Prop :=
 ∀ (W : World) (x : Int), Turn (fun k => k = blk) w W -> x ∈ l -> Calls Tryz.prog g (#[.int .u64 x] ++ cb) W fun e w' => e = .returned (.bool (p x)) /\ Below W.heap.size W w'
def firstF (p : Int -> Bool) (l : List Int) : Nat := l.findIdx p
theorem first_at {p : Int -> Bool} {l : List Int} {k : Nat} (hk : k < l.length) (h1 : ∀ j, j < k -> p (l.getD j 0) = false) (h2 : p (l.getD k 0) = true) : firstF p l = k := by
 unfold firstF;rw [List.findIdx_eq hk];refine ⟨by rw [List.getD_eq_getElem?_getD, List.getElem?_eq_getElem hk] at h2; exact h2, fun j hj => ?_⟩;have := h1 j hj;rw [List.getD_eq_getElem?_getD, List.getElem?_eq_getElem (show j < l.length by omega)] at this;exact this
theorem first_none {p : Int -> Bool} {l : List Int} (h1 : ∀ j, j < l.length -> p (l.getD j 0) = false) : firstF p l = l.length /\ l.filter (fun x => !p x) = l := by
 have h : ∀ x ∈ l, p x = false := fun x hx => by
  obtain ⟨j, hj, rfl⟩ := List.mem_iff_getElem.1 hx;have := h1 j hj
  rwa [List.getD_eq_getElem?_getD, List.getElem?_eq_getElem hj] at this
 refine ⟨?_, List.filter_eq_self.2 fun x hx => by rw [h x hx]; rfl⟩;unfold firstF;exact List.findIdx_eq_length_of_false h
def idxN (p : Int -> Bool) (l : List Int) : Int := if firstF p l < l.length then (firstF p l : Int) else -1
def DfI (p : Int -> Bool) (l : List Int) (j i : Nat) (dk : List Int) : Prop :=
 dk.length = l.length /\ i < j /\ (l.take j).filter (fun x => !p x) = dk.take i /\ ∀ t, j <= t -> dk[t]? = l[t]?
theorem df_take {l : List Int} {j : Nat} (hj : j < l.length) : l.take (j + 1) = l.take j ++ [l.getD j 0] := by
 rw [List.take_add_one, List.getElem?_eq_getElem hj, List.getD_eq_getElem?_getD, List.getElem?_eq_getElem hj]; rfl
theorem df_start {p : Int -> Bool} {l : List Int} {k : Nat} (hk : k < l.length) (h1 : ∀ j, j < k -> p (l.getD j 0) = false) (h2 : p (l.getD k 0) = true) : DfI p l (k + 1) k l := by
 refine ⟨rfl, Nat.lt_succ_self _, ?_, fun _ _ => rfl⟩;rw [df_take hk, List.filter_append, List.filter_cons_of_neg (by rw [h2]; simp), List.filter_nil, List.append_nil];refine List.filter_eq_self.2 fun x hx => ?_
 obtain ⟨t, ht, rfl⟩ := List.mem_iff_getElem.1 hx;have ht2 : t < k := by simp at ht; omega
 have := h1 t ht2;rw [List.getD_eq_getElem?_getD, List.getElem?_eq_getElem (show t < l.length by omega)] at this;rw [List.getElem_take, show p l[t] = false from this]; rfl
theorem df_keep {p : Int -> Bool} {l dk : List Int} {j i : Nat} (h : DfI p l j i dk) (hj : j < l.length) (hp : p (l.getD j 0) = false) : DfI p l (j + 1) (i + 1) (dk.set i (l.getD j 0)) := by
 obtain ⟨h1, h2, h3, h4⟩ := h;refine ⟨by simpa using h1, by omega, ?_, fun t ht => ?_⟩
 ·rw [df_take hj, List.filter_append, h3, List.filter_cons_of_pos (by rw [hp]; rfl), List.filter_nil, List.take_add_one]
  rw [List.take_set_of_le (Nat.le_refl _), List.getElem?_set_self (by omega)]; rfl
 ·rw [List.getElem?_set_ne (by omega)]; exact h4 t (by omega)
theorem df_skip {p : Int -> Bool} {l dk : List Int} {j i : Nat} (h : DfI p l j i dk) (hj : j < l.length) (hp : p (l.getD j 0) = true) : DfI p l (j + 1) i dk := by
 obtain ⟨h1, h2, h3, h4⟩ := h;refine ⟨h1, by omega, ?_, fun t ht => h4 t (by omega)⟩;rw [df_take hj, List.filter_append, h3, List.filter_cons_of_neg (by rw [hp]; simp), List.filter_nil, List.append_nil]
theorem own_setCells {base n cap size g : Nat} {e : TypeId} : ∀ (vs : List Value) (o : Nat) (w : World) (xs : List Value), w.ownsRow base e size (.slice (some ⟨g, 0, none⟩) n cap) n xs -> ∃ ys, (w.setCells g o vs).ownsRow base e size (.slice (some ⟨g, 0, none⟩) n cap) n ys /\ ys.take o = xs.take o
 | [], _, _, xs, h => ⟨xs, h, rfl⟩
 | v :: r, o, _, xs, h => by
  obtain ⟨ys, h1, h2⟩ := own_setCells r (o + 1) _ _ (own_set h o v);refine ⟨ys, h1, ?_⟩;have := congrArg (List.take o) h2;rw [List.take_take, List.take_take, Nat.min_eq_left (by omega), List.take_set_of_le (Nat.le_refl _)] at this;exact this
theorem turn_setCells {g : Nat} : ∀ (vs : List Value) (o : Nat) (w0 w : World), Turn (fun k => k = g) w0 w -> Turn (fun k => k = g) w0 (w.setCells g o vs)
 | [], _, _, _, h => h
 | v :: r, o, w0, _, h => turn_setCells r (o + 1) w0 _ (Turn.setCell (S := fun k => k = g) (a := ⟨g, o, none⟩) h rfl v)
theorem uV_set (l : List Int) (i : Nat) (x : Int) : uV (l.set i x) = (uV l).set i (.int .u64 x) := by unfold uV; rw [List.map_set]
theorem uV_take (l : List Int) (i : Nat) : uV (l.take i) = (uV l).take i := by unfold uV; rw [List.map_take]
theorem own_cells {w : World} {base g n c : Nat} {l : List Int} (h : w.ownsRow base 35 1 (.slice (some ⟨g, 0, none⟩) n c) n (uV l)) (hl : l.length = n) : g < w.heap.size /\ ∀ i, i < n -> w.cell? ⟨g, i, none⟩ = some (.int .u64 (l.getD i 0)) /\ w.frozen? ⟨g, i, none⟩ = false := by
 obtain ⟨cur, hh, _⟩ := own_block h;refine ⟨(Array.getElem?_eq_some_iff.1 hh).1, fun i hi => ⟨?_, h.frozenAt i⟩⟩;rw [h.cellAt i (by omega), uV_get l i (by omega)]
end
section
open Go.RowKit Go.Lib Go.Sort
def JoinedO (w : World) (l : List Int) (e : Ending) (w' : World) : Prop :=
 ∃ ao c, e = .returned (.slice ao l.length c) /\ w'.ownsRow w.heap.size 35 1 (.slice ao l.length c) l.length (uV l) /\ Below w.heap.size w w'
theorem rset_own (ao : Option Addr) (c : Nat) (l : List Int) (w : World) (h : WordsAt w w.heap.size ao l) (hn : l.length <= 1000000000) :
  Calls Tryz.prog 12 #[.slice ao l.length c] w (JoinedO w (setF l)) := by
 obtain ⟨i0, hi, hz0, hz1, hz2⟩ := info_parts info_u;have hsz1 : (Tryz.prog.info? 35).map (·.size) = some 1 := by kernel_rfl
 obtain ⟨n, hnn⟩ : ∃ n, l.length = n := ⟨_, rfl⟩;have HN := Lib.hid hnn;have HW := Lib.hid h;rw [hnn] at hn ⊢;clear hnn h
 go_enter Tryz.func12, Tryz.ntmps12
 go_wp2
 go_loopw [3, 4] (fun v i wr => ∃ (k m : Nat), k <= n /\ m <= k /\ i = .int .i64 k /\ Hid ((setF (l.take k)).length = m) /\ wr.ownsRow w.heap.size 35 1 v m (uV (setF (l.take k))) /\ Below w.heap.size w wr) (fun _ i _ => n - (intOf i).toNat)
 case atStart => exact ⟨0, 0, Nat.zero_le _, Nat.le_refl _, rfl, by show _ = _; rw [List.take_zero, setF_nil]; rfl, by rw [List.take_zero, setF_nil]; exact World.ownsRow_nil _ _ _ _, Below.refl _ _⟩
 case round =>
  obtain ⟨k, m, hk, hm, rfl, HM0, hown, hnx⟩ := hrel;have hsz := hnx.size;obtain ⟨s, hs⟩ : ∃ s, setF (l.take k) = s := ⟨_, rfl⟩;have HM : Hid (s.length = m) := by show _ = _; rw [<- hs]; exact HM0.out
  rw [hs] at hown;have HUP : Hid (Rising s) := by show Rising s; rw [<- hs]; exact (setF_up _).rising
  have HS := Lib.hid hs;clear hs HM0;obtain ⟨vo, vc, rfl, _, _⟩ := own_form hown;have HWD := Lib.hid (words_own HM.out.symm hown);have HOWN := Lib.hid hown;have HNX := Lib.hid hnx;by_cases hlt : k < n
  ·obtain ⟨b, off, rfl, hb, hc⟩ := (HW.out.below hnx (Nat.le_refl _)) (by rw [HN.out]; omega)
   have c0 := hc k (by rw [HN.out]; exact hlt);obtain ⟨x, hx⟩ : ∃ x, l.getD k 0 = x := ⟨_, rfl⟩;rw [hx] at c0;have HX := Lib.hid hx;have hbw : b < wr.heap.size := by omega
   have KEEP : Hid (∀ X : World, X.heap = wr.heap -> X.cell? ⟨b, off + k, none⟩ = some (.int .u64 x) /\ b < X.heap.size /\ WordsAt X X.heap.size vo s /\ X.ownsRow w.heap.size 35 1 (.slice vo m vc) m (uV s)) := fun X hX => by
    refine ⟨?_, by rw [hX]; exact hbw, ?_, own_heap hX HOWN.out⟩
    ·rw [cell_heap hX]; exact c0
    ·have := words_heap hX HWD.out
     rwa [<- hX] at this
   clear hc hx hown hnx c0 hbw HWD hsz;obtain ⟨wo, hwo⟩ : ∃ wo : World, wo = wr := ⟨_, rfl⟩;subst hwo;go_wp2
   go_loopw [5, 6] (fun i j wr => ∃ lo hi : Nat, lo <= hi /\ hi <= m /\ i = .int .i64 lo /\ j = .int .i64 hi /\ Hid ((∀ k, k < lo -> s.getD k 0 < x) /\ ∀ k, hi <= k -> k < m -> x <= s.getD k 0) /\ Hid (wr.heap = wo.heap) /\ Below w.heap.size w wr) (fun i j _ => (intOf j).toNat - (intOf i).toNat)
   case atStart => exact ⟨0, m, Nat.zero_le _, Nat.le_refl _, rfl, rfl, ⟨fun k hk => by omega, fun k h1 h2 => by omega⟩, rfl, HNX.out⟩
   case round =>
    obtain ⟨lo, hi', h1, h2, rfl, rfl, HA, HH, hbx⟩ := hrel;obtain ⟨c0, hbw, hwd, hown⟩ := KEEP.out wr HH.out;have HWD := Lib.hid hwd;have HOWN := Lib.hid hown;have HBX := Lib.hid hbx;have hsz := hbx.size;clear hwd hown hbx;by_cases hlt2 : lo < hi'
    ·obtain ⟨g1, off1, rfl, hg1, hc1⟩ := HWD.out (by rw [HM.out]; omega)
     obtain ⟨t, ht⟩ : ∃ t, (lo + hi') / 2 = t := ⟨_, rfl⟩;have hm1 : lo <= t := by omega
     have hm2 : t < hi' := by omega
     have hmI : ((lo : Int) + (hi' : Int)) / 2 = (t : Int) := by omega
     have c1 := hc1 t (by rw [HM.out]; omega);have HL1 : Hid (s.getD t 0 < x -> ∀ k, k < t + 1 -> s.getD k 0 < x) := fun e k hk => by
      have := HUP.out k t (by omega) (by rw [HM.out]; omega);omega
     have HL2 : Hid (¬ s.getD t 0 < x -> ∀ k, t <= k -> k < m -> x <= s.getD k 0) := fun e k h3 h4 => by
      have := HUP.out t k h3 (by rw [HM.out]; exact h4);omega
     generalize s.getD t 0 = y at c1 HL1 HL2;clear hc1 ht;by_cases hyx : y < x
     ·have HLL := Lib.hid (HL1.out hyx)
      clear HL1 HL2
      go_wp2_with (first | (with_reducible refine wp_region_lex (by kernel_rfl) (by kernel_rfl) ?_) | (with_reducible refine OnlyG.intro (by kernel_rfl) ?_))
      go_roundw
      case rel => exact ⟨t + 1, hi', by omega, h2, by go_num, rfl, ⟨HLL.out, HA.out.2⟩, HH.out, HBX.out.drew⟩
      case measure => simp [intOf]; omega
     ·have HLL := Lib.hid (HL2.out hyx)
      clear HL1 HL2
      go_wp2_with (first | (with_reducible refine wp_region_lex (by kernel_rfl) (by kernel_rfl) ?_) | (with_reducible refine OnlyG.intro (by kernel_rfl) ?_))
      go_roundw
      case rel => exact ⟨lo, t, by omega, by omega, rfl, by go_num, ⟨HA.out.1, HLL.out⟩, HH.out, HBX.out.drew⟩
      case measure => simp [intOf]; omega
    ·obtain rfl : lo = hi' := by omega
     by_cases hin : lo < m /\ s.getD lo 0 = x
     ·obtain ⟨g1, off1, rfl, hg1, hc1⟩ := HWD.out (by rw [HM.out]; omega)
      have c1 := hc1 lo (by rw [HM.out]; exact hin.1);obtain ⟨y, hy⟩ : ∃ y, s.getD lo 0 = y := ⟨_, rfl⟩;have q1 : (y == x) = true := by rw [<- hy]; simpa using hin.2
      rw [hy] at c1;have HOLD : Hid (setF (l.take (k + 1)) = s) := by
       show _ = _;rw [setF_old (by rw [HN.out]; exact hlt) (by rw [HS.out, HX.out, <- hin.2]; exact getD_mem (by rw [HM.out]; exact hin.1)), HS.out]
      have q0 : decide (lo < m) = true := by simpa using hin.1
      have hlm := hin.1;clear hc1 hin hy
      go_wp2_with (first | (with_reducible refine wp_region_lex (by kernel_rfl) (by kernel_rfl) ?_) | (with_reducible refine OnlyG.intro (by kernel_rfl) ?_))
      go_roundw
      case rel => exact ⟨k + 1, m, by omega, by omega, by go_num, by show _ = _; rw [HOLD.out]; exact HM.out, by rw [HOLD.out]; exact HOWN.out, HBX.out.drew⟩
      case measure => simp [intOf]; omega
     ·have HPUT : Hid (setF (l.take (k + 1)) = s.take lo ++ x :: s.drop lo) := by
       show _ = _;rw [setF_put (by rw [HN.out]; exact hlt) HS.out (lo := lo) (by rw [HX.out]; exact HA.out.1) (by
        rw [HX.out];intro j h3 h4;rw [HM.out] at h4;have e1 := HA.out.2 j h3 h4;have e2 := HUP.out lo j h3 (by rw [HM.out]; exact h4);have e3 := HA.out.2 lo (Nat.le_refl _) (by omega);by_cases e4 : s.getD lo 0 = x
        ·exact absurd ⟨by omega, e4⟩ hin
        ·omega), HX.out]
      have key : decide (lo < m) = false ∨ (lo < m /\ decide (lo < m) = true /\ ∃ g1 off1 y, vo = some ⟨g1, off1, none⟩ /\ g1 < wr.heap.size /\ wr.cell? ⟨g1, off1 + lo, none⟩ = some (.int .u64 y) /\ (y == x) = false) := by
       by_cases e : lo < m
       ·refine .inr ⟨e, by simpa using e, ?_⟩
        obtain ⟨g1, off1, rfl, hg1, hc1⟩ := HWD.out (by rw [HM.out]; omega);exact ⟨g1, off1, _, rfl, hg1, hc1 lo (by rw [HM.out]; exact e), by simpa using fun h => hin ⟨e, h⟩⟩
       ·exact .inl (by simpa using e)
      clear hin hlt2;rcases key with q0 | ⟨hlm, q0, g1, off1, y, rfl, hg1, c1, q1⟩
      all_goals
       have hown := HOWN.out
       go_upto_region 13 with (first | (with_reducible refine wp_region_lex (by kernel_rfl) (by kernel_rfl) ?_) | (with_reducible refine OnlyG.intro (by kernel_rfl) ?_) | (at_builtin; refine wpList_append_own _ rfl (.tmp 50) (.tmp 51) 22 rfl w.heap.size 35 i0 (.int .u64 0) 1 8 Tryz.underlying22 hi hz0 hz1 hz2 rfl (by decide) _ _ _ rfl (hown.alloc _) ⟨wr.heap.size, 0, none⟩ 1 1 [.int .u64 0] rfl rfl (cells_new _ _ _ _ rfl) (by simp [Value.oneCell']) (by unfold maxLen; omega) (by omega) (by simp; omega) ?_; intro v' w3 hown1 hgrow _))
       have hbel : Below w.heap.size w w3 := below_append (HBX.out.drew.alloc hsz _) (hown.alloc _) (by simp; omega) hgrow;rcases hown1.2 with ⟨_, h0⟩ | ⟨g, cap, ⟨cur⟩, rfl, hbg, hheap, hcap, hmax, hcsz, htake⟩
       ·omega
       obtain ⟨e, he⟩ : ∃ e, s.drop lo = e := ⟨_, rfl⟩;have hdl : (uV e).length = m - lo := by rw [uV_len, <- he, List.length_drop, HM.out]
       have hmin : (uV e).length = Nat.min (m + 1 - lo) (m - lo) := by rw [hdl]; show _ = min _ _; omega
       have hfit : lo + 1 + (uV e).length <= cur.length := by
          rw [hdl]; have : cur.length = cap := by simpa using hcsz
          omega
       have HPOS : Hid (0 < (uV e).length -> (if cap = lo + 1 then some (⟨g, 0, none⟩ : Addr) else some ⟨g, lo + 1, none⟩) = some ⟨g, lo + 1, none⟩ /\ ∃ ad, some (⟨g, lo, none⟩ : Addr) = some ad /\ ∀ j v, (uV e)[j]? = some v -> w3.drew.cell? (ad.add j) = some v) := fun h0 => by
        refine ⟨by rw [if_neg (by omega)], _, rfl, fun j v hj => ?_⟩;have hj' : j < (uV e).length := (List.getElem?_eq_some_iff.1 hj).1;have hadd : (⟨g, lo, none⟩ : Addr).add j = ⟨g, lo + j, none⟩ := by unfold Addr.add; split <;> simp_all
        rw [hadd, cell_heap (X := w3.drew) (w := w3) rfl, hown1.cellAt (lo + j) (by omega), List.getElem?_append_left (by rw [uV_len, HM.out]; omega), <- hj, <- he];simp [uV]
       have HTK : Hid (cur.take (m + 1) = uV s ++ [.int .u64 0]) := by show _ = _; rw [<- htake, Nat.mul_one]
       have HCL : Hid (cur.length = cap) := by show _ = _; simpa using hcsz
       have HDE := Lib.hid he;have hheap' : w3.drew.heap[g]? = some (.cells cur.toArray 35 (0, 0)) := hheap;have hbel' := hbel.drew;have hw1 : IntKind.i64.wrap ((lo : Int) + 1) = (lo : Int) + 1 := IntWalk.i64_in _ (by omega);have hb1 : (lo : Int) + 1 <= (m : Int) + 1 := by omega
       have hb2 : (lo : Int) <= (m : Int) + 1 := by omega
       have hb0 : (0 : Int) <= (lo : Int) + 1 := by omega
       have hne : ¬ cap = lo := by omega
       clear htake hcsz hown1 hgrow hown he hdl
       go_region_law (refine step_copy_splice rfl (.tmp 56) (.tmp 59) 22 22 rfl 35 Tryz.underlying22 hsz1 (if cap = lo + 1 then some (⟨g, 0, none⟩ : Addr) else some ⟨g, lo + 1, none⟩) (some ⟨g, lo, none⟩) (m - lo) (cap - (lo + 1)) (m + 1 - lo) (cap - lo) (by simp [Act.eval, Act.put]) (by simp [Act.eval, Act.put]) g (lo + 1) cur 35 hheap' (uV e) hmin HPOS.out hfit (uV_cell _) w.heap.size w hbel' hbg ?_; intro w4 HG4 hb4)
       have hput := HG4.out;have c4 : w4.cell? ⟨b, off + k, none⟩ = some (.int .u64 x) := (hb4.cell (p := ⟨b, off + k, none⟩) hb).trans ((HBX.out.cell (p := ⟨b, off + k, none⟩) hb).symm.trans c0);have hbw4 : b < w4.heap.size := by have := hb4.size; omega
       have hg4 : g < w4.heap.size := (Array.getElem?_eq_some_iff.1 hput).1;have hsl : lo < (splice cur (lo + 1) (uV e)).length := by rw [length_splice _ _ _ hfit, HCL.out]; omega
       have c5 : w4.cell? ⟨g, lo, none⟩ = some (splice cur (lo + 1) (uV e))[lo] := by
        rw [cell_of_row _ _ _ _ _ _ hput, List.getElem?_toArray, List.getElem?_eq_getElem hsl]
       have hf5 : w4.frozen? ⟨g, lo, none⟩ = false := by simp [World.frozen?, hput]
       have HG5 := Lib.hid (hput);generalize (splice cur (lo + 1) (uV e))[lo] = y5 at c5;have HB5 : Hid (Below w.heap.size w (w4.setCell ⟨g, lo, none⟩ (.int .u64 x))) := hb4.setCell hbg _;have HOWN5 : Hid ((w4.setCell ⟨g, lo, none⟩ (.int .u64 x)).ownsRow w.heap.size 35 1 (.slice (some ⟨g, 0, none⟩) (m + 1) cap) (m + 1) (uV (setF (l.take (k + 1))))) := by
        have hh : w4.heap[g]? = some (.cells (splice cur (lo + 1) (uV (s.drop lo))).toArray 35 (0, 0)) := by rw [HDE.out]; exact hput
        have := own_put (x := x) hbg HM.out h2 hcap hmax HCL.out HTK.out hh;rw [<- HPUT.out] at this;exact this
       have HLEN : Hid ((setF (l.take (k + 1))).length = m + 1) := by
        show _ = _;rw [HPUT.out, List.length_append, List.length_cons, List.length_take, List.length_drop, HM.out];omega
       clear hput hb4 hsl hheap hheap' hbel hbel' hfit hmin
       go_wp2_with (first | (with_reducible refine wp_region_lex (by kernel_rfl) (by kernel_rfl) ?_) | (with_reducible refine OnlyG.intro (by kernel_rfl) ?_))
       go_roundw
       case rel => exact ⟨k + 1, m + 1, by omega, by omega, by go_num, HLEN.out, HOWN5.out, HB5.out⟩
       case measure => simp [intOf]; omega
  ·obtain rfl : k = n := by omega
   have HT : Hid (s = setF l) := by show _ = _; rw [<- HS.out, <- HN.out, List.take_length]
   have hwd := words_own HM.out.symm hown;have hJ : Hid (JoinedO w (setF l) (.returned (.slice vo m vc)) wr) := ⟨vo, vc, by rw [<- HT.out, HM.out], by rw [<- HT.out, HM.out]; exact hown, hnx⟩;clear hwd hown hnx;go_wp2;go_ret;exact hJ.out
theorem words_news {w : World} {B : Nat} {ao : Option Addr} {l : List Int} (h : WordsAt w B ao l) : ∀ ad, ao = some ad -> ∀ j u, (uV l)[j]? = some u -> w.cell? (ad.add j) = some u := fun ad e j u hj => by
 have hjl : j < l.length := by have := (List.getElem?_eq_some_iff.1 hj).1; rwa [uV_len] at this
 obtain ⟨b, off, e2, _, hc⟩ := h (by omega);rw [e2] at e;cases e;rw [uV_get l j hjl] at hj;cases hj;have hadd : (⟨b, off, none⟩ : Addr).add j = ⟨b, off + j, none⟩ := by unfold Addr.add; split <;> simp_all
 rw [hadd];exact hc j hjl
theorem wpList_append_want {P : Program} (w : World) {ops : Array Oper} {rest : List Oper} {o : Oper} {a : Act} {Q : Exit -> Act -> World -> Prop} (hgd : Region.wanted o (yielded ops a.tmps) = true) (s x : Operand) (t tn : TypeId)
  (ho : o.op = .call { callee := .builtin .append, args := #[s, x], argTypes := #[t, tn] }) (vs vx : Value) (hs : a.eval s = vs) (hx : a.eval x = vx)
  (v' : Value) (w' : World) (hr : (Builtin.append_ #[t, tn] o.type #[vs, vx]).run P w = .ok v' w') (h : wpList P ops Q rest (a.put o.dst v') w') : wpList P ops Q (o :: rest) a w := by
 unfold wpList;rw [if_pos hgd];exact .inl (wp_append_run w s x t tn ho vs vx hs hx v' w' hr h)
theorem same_n {w : World} {ao bo : Option Addr} {n m c d : Nat} {a b : List Int} (hn : n = a.length) (hm : m = b.length) (hl : n <= 1000000) (ha : WordsAt w w.heap.size ao a) (hb : WordsAt w w.heap.size bo b) :
  Calls Tryz.prog 10 #[.slice ao n c, .slice bo m d] w fun e w' => e = .returned (.bool (decide (a = b))) /\ Below w.heap.size w w' := by
 subst hn; subst hm;exact same_any ao bo c d a b w _ _ ha hb (by omega)
theorem rhas_n {w : World} {ao : Option Addr} {n c : Nat} {l : List Int} (x : Int) (hn : n = l.length) (hl : n <= 1000000) (h : WordsAt w w.heap.size ao l) (hr : Rising l) :
  Calls Tryz.prog 13 #[.slice ao n c, .int .u64 x] w fun e w' => e = .returned (.bool (hasF l x)) /\ w = w' := by
 subst hn;exact rhas_any ao c l x w _ h (by omega) hr
def LAt (w : World) (ao : Option Addr) (n c : Nat) (L : List Int) : Prop := n = L.length /\ WordsAt w w.heap.size ao L /\ (ao = none -> n = 0 /\ c = 0)
theorem LAt.later {w w' : World} {ao : Option Addr} {n c : Nat} {L : List Int} (h : LAt w ao n c L) (hb : Below w.heap.size w w') : LAt w' ao n c L := ⟨h.1, (h.2.1.below hb (Nat.le_refl _)).wider hb.size, h.2.2⟩
theorem LAt.of_own {w : World} {base n c : Nat} {ao : Option Addr} {L : List Int} (hn : n = L.length) (h : w.ownsRow base 35 1 (.slice ao n c) n (uV L)) : LAt w ao n c L :=
 ⟨hn, words_own hn h, fun e => by
  rcases h.2 with ⟨hv, h0⟩ | ⟨g, cap, cur, hv, _⟩
  ·simp only [Value.slice.injEq] at hv; exact ⟨hv.2.1, hv.2.2⟩
  ·simp only [Value.slice.injEq] at hv; rw [e] at hv; cases hv.1⟩
theorem bsch_any (ao : Option Addr) (c : Nat) (l : List Int) (x : Int) (w : World) (B : Nat) (h : WordsAt w B ao l) (hn : l.length <= 1000000000) (hr : Rising l) :
  Calls Tryz.prog 44 #[.slice ao l.length c, .int .u64 x] w (Found l x w) := by
 obtain ⟨n, hnn⟩ : ∃ n, l.length = n := ⟨_, rfl⟩;have HN := Lib.hid hnn;have HW := Lib.hid h;have HR := Lib.hid hr;rw [hnn] at hn ⊢;clear hnn h hr
 go_enter Tryz.func44, Tryz.ntmps44
 go_wp2
 go_loop [7, 8] (fun i j => ∃ lo hi : Nat, lo <= hi /\ hi <= n /\ i = .int .i64 lo /\ j = .int .i64 hi /\ Hid ((∀ k, k < lo -> l.getD k 0 < x) /\ ∀ k, hi <= k -> k < n -> x <= l.getD k 0)) (fun i j => (intOf j).toNat - (intOf i).toNat)
 case atStart => exact ⟨0, n, Nat.zero_le _, Nat.le_refl _, rfl, rfl, fun k hk => by omega, fun k h1 h2 => by omega⟩
 case round =>
  obtain ⟨lo, hi, h1, h2, rfl, rfl, HA⟩ := hrel;by_cases hlt : lo < hi
  ·obtain ⟨b, off, rfl, hb, hc⟩ := HW.out (by rw [HN.out]; omega)
   obtain ⟨m, hm⟩ : ∃ m, (lo + hi) / 2 = m := ⟨_, rfl⟩;have hm1 : lo <= m := by omega
   have hm2 : m < hi := by omega
   have hmI : ((lo : Int) + (hi : Int)) / 2 = (m : Int) := by omega
   have c0 := hc m (by rw [HN.out]; omega);have HL1 : Hid (l.getD m 0 < x -> ∀ k, k < m + 1 -> l.getD k 0 < x) := fun e k hk => by
    have := HR.out k m (by omega) (by rw [HN.out]; omega);omega
   have HL2 : Hid (¬ l.getD m 0 < x -> ∀ k, m <= k -> k < n -> x <= l.getD k 0) := fun e k h3 h4 => by
    have := HR.out m k h3 (by rw [HN.out]; exact h4);omega
   generalize l.getD m 0 = y at c0 HL1 HL2;clear hc hm;have HC := Lib.hid (u64_cmp_Less_int y x);by_cases hyx : y < x
   ·have hL := HL1.out hyx
    have HLL := Lib.hid hL;have hq : Sort.ltInt y x = true := by simp [Sort.ltInt, hyx]
    rw [hq] at HC;clear hL HL1 HL2 hq
    go_wp2_with (go_at_call 76; refine (HC.out _).mono ?_; rintro e w' ⟨rfl, rfl⟩)
    go_round
    case rel => exact ⟨m + 1, hi, by omega, h2, by go_num, rfl, HLL.out, HA.out.2⟩
    case measure => simp [intOf]; omega
   ·have hL := HL2.out hyx
    have HLL := Lib.hid hL;have hq : Sort.ltInt y x = false := by simp [Sort.ltInt]; omega
    rw [hq] at HC;clear hL HL1 HL2 hq
    go_wp2_with (go_at_call 76; refine (HC.out _).mono ?_; rintro e w' ⟨rfl, rfl⟩)
    go_round
    case rel => exact ⟨lo, m, by omega, by omega, rfl, by go_num, HA.out.1, HLL.out⟩
    case measure => simp [intOf]; omega
  ·obtain rfl : lo = hi := by omega
   by_cases hln : lo < n
   ·obtain ⟨b, off, rfl, hb, hc⟩ := HW.out (by rw [HN.out]; omega)
    have c0 := hc lo (by rw [HN.out]; exact hln);have HY : Hid (l.getD lo 0 = x -> hasF l x = true) := fun e => hasF_yes (by rw [HN.out]; exact hln) e
    have HNO : Hid (l.getD lo 0 ≠ x -> hasF l x = false) := fun e => hasF_no fun j hj => by
     rw [HN.out] at hj;by_cases hjl : j < lo
     ·have := HA.out.1 j hjl; omega
     ·have h3 := HA.out.2 lo (Nat.le_refl _) hln
      have h4 := HR.out lo j (by omega) (by rw [HN.out]; exact hj);omega
    generalize l.getD lo 0 = y at c0 HY HNO;clear hc;have HNA := Lib.hid unan_any;have q0 : decide ((lo : Int) < (n : Int)) = true := by simp; omega
    by_cases he : y = x
    ·have hq : (y == x) = true := by simpa using he
     have HF : Hid (hasF l x = true) := HY.out he;clear he HY HNO;go_wp2;go_ret2;exact ⟨(lo : Int), by (first | (rw [HF.out]; done) | (rw [HF.out]; rfl)), rfl⟩
    ·have hq : (y == x) = false := by simpa using he
     have HF : Hid (hasF l x = false) := HNO.out he;clear he HY HNO
     go_wp2_with (go_at_call 77; refine (HNA.out _ _).mono ?_; rintro e w' ⟨rfl, rfl⟩)
     go_ret2;exact ⟨(lo : Int), by (first | (rw [HF.out]; done) | (rw [HF.out]; rfl)), rfl⟩
   ·obtain rfl : lo = n := by omega
    have HF : Hid (hasF l x = false) := hasF_no fun j hj => by
     rw [HN.out] at hj;have := HA.out.1 j hj;omega
    have q0 : decide ((lo : Int) < (lo : Int)) = false := by simp
    go_wp2;go_ret2;exact ⟨(lo : Int), by (first | (rw [HF.out]; done) | (rw [HF.out]; rfl)), rfl⟩
theorem bdindex_any (cb : Array Value) (p : Int -> Bool) (ao : Option Addr) (n c : Nat) (l : List Int) (w : World) (blk : Nat) (hn : l.length = n) (hbig : n <= 1000000)
  (hw : WordsAt w w.heap.size ao l) (ha : AskU 47 cb p w blk l) :
  Calls Tryz.prog 58 #[.slice ao n c, .func (.func 47) #[] cb] w fun e w' => e = .returned (.int .i64 (idxN p l)) /\ Below w.heap.size w w' := by
 have HW := Lib.hid hw;have HA := Lib.hid ha;have HN := Lib.hid hn;have HY : Hid (∀ k, k < l.length -> (∀ j, j < k -> p (l.getD j 0) = false) -> p (l.getD k 0) = true -> idxN p l = k) := fun k hk h1 h2 => by
  unfold idxN; rw [first_at hk h1 h2, if_pos hk]
 have HZ : Hid ((∀ j, j < l.length -> p (l.getD j 0) = false) -> idxN p l = -1) := fun h => by
  unfold idxN; rw [(first_none h).1, if_neg (Nat.lt_irrefl _)]
 generalize idxN p l = res at *;clear hw ha hn
 go_enter Tryz.func58, Tryz.ntmps58
 go_upto_region 2 with (fail)
 go_loopg [5, 8] n (fun q _ s8 wr => ∃ k : Nat, k <= n /\ n - k <= q /\ s8 = .int .i64 k /\ Hid (Below w.heap.size w wr /\ ∀ j, j < k -> p (l.getD j 0) = false))
 case atStart => exact ⟨0, by omega, by omega, by go_num, Below.refl _ _, fun j hj => by omega⟩
 case round =>
  obtain ⟨k, hk, hq, rfl, HR⟩ := hrel;by_cases hlt : k < n
  ·obtain ⟨b, off, rfl, hb, hc⟩ := (HW.out.below HR.out.1 (Nat.le_refl _)) (by have := HN.out; omega)
   have c0 := hc k (by have := HN.out; omega);have hki : (k : Int) < (n : Int) := by omega
   have hcall := HA.out wr (l.getD k 0) (Turn.of_below HR.out.1) (by rw [List.getD_eq_getElem?_getD, List.getElem?_eq_getElem (by have := HN.out; omega)]; exact List.getElem_mem _);obtain ⟨x, hx⟩ : ∃ x, l.getD k 0 = x := ⟨_, rfl⟩;have HX := Lib.hid hx;rw [hx] at c0 hcall;clear hc hx hb;cases hp : p x with
   | true =>
    rw [hp] at hcall
    go_wp2_with (go_at_call 47; refine hcall.mono ?_; rintro e w2 ⟨rfl, hb2⟩)
    go_ret;exact ⟨by rw [HY.out k (by have := HN.out; omega) HR.out.2 (by rw [HX.out]; exact hp)]; rfl, HR.out.1.trans (hb2.mono HR.out.1.size)⟩
   | false =>
    rw [hp] at hcall
    go_wp2_with (go_at_call 47; refine hcall.mono ?_; rintro e w2 ⟨rfl, hb2⟩)
    go_roundg (n - (k + 1))
    case measure => omega
    case rel =>
     refine ⟨k + 1, by omega, Nat.le_refl _, by go_num, HR.out.1.trans (hb2.mono HR.out.1.size), fun j hj => ?_⟩;by_cases e : j = k
     ·subst e; rw [HX.out]; exact hp
     ·exact HR.out.2 j (by omega)
  ·obtain rfl : k = n := by omega
   have hki : ¬ (k : Int) < (k : Int) := by omega
   go_wp2;go_ret;exact ⟨by rw [HZ.out fun j hj => HR.out.2 j (by have := HN.out; omega)]; rfl, HR.out.1⟩
theorem bdcontains_any (cb : Array Value) (p : Int -> Bool) (ao : Option Addr) (n c : Nat) (l : List Int) (w : World) (blk : Nat) (hn : l.length = n) (hbig : n <= 1000000)
  (hw : WordsAt w w.heap.size ao l) (ha : AskU 47 cb p w blk l) :
  Calls Tryz.prog 46 #[.slice ao n c, .func (.func 47) #[] cb] w fun e w' => e = .returned (.bool (l.any p)) /\ Below w.heap.size w w' := by
 have HI := Lib.hid (bdindex_any cb p ao n c l w blk hn hbig hw ha);have HS : Hid (decide (0 <= idxN p l) = l.any p) := by
  show _ = _;by_cases h : ∀ j, j < l.length -> p (l.getD j 0) = false
  ·have e1 : idxN p l = -1 := by unfold idxN; rw [(first_none h).1, if_neg (Nat.lt_irrefl _)]
   rw [e1];symm;rw [show decide ((0 : Int) <= -1) = false by decide, Bool.eq_false_iff, ne_eq, List.any_eq_true];rintro ⟨x, hx, hp⟩;obtain ⟨j, hj, rfl⟩ := List.getElem_of_mem hx;have := h j hj;rw [List.getD_eq_getElem?_getD, List.getElem?_eq_getElem hj, Option.getD_some, hp] at this;cases this
  ·have hlt : firstF p l < l.length := by
    rcases Nat.lt_or_ge (firstF p l) l.length with h1 | h1
    ·exact h1
    ·exact absurd (fun j hj => by
      have h2 := List.not_of_lt_findIdx (p := p) (xs := l) (i := j) (by unfold firstF at h1; omega);rw [List.getD_eq_getElem?_getD, List.getElem?_eq_getElem hj];simpa using h2) h
   unfold idxN;rw [if_pos hlt];symm;rw [decide_eq_true (by omega), List.any_eq_true];exact ⟨l[firstF p l], List.getElem_mem _, List.findIdx_getElem (w := hlt)⟩
 generalize idxN p l = r at *;generalize l.any p = b at *;clear hw ha
 go_enter Tryz.func46, Tryz.ntmps46
 go_wp2_with fail
 refine HI.out.mono ?_;rintro e w1 ⟨rfl, hb1⟩;have HB1 := Lib.hid hb1;clear hb1;go_wp2;go_ret;exact ⟨ret_bool HS.out, HB1.out⟩
theorem bdq_any {lo : Option Addr} {ln lc lb : Nat} {L : List Int} (x : Int) {w : World} (hc : w.cell? ⟨lb, 0, none⟩ = some (.slice lo ln lc)) (h : LAt w lo ln lc L) (hr : Rising L) (hn : ln <= 1000000) :
  Calls Tryz.prog 43 #[.int .u64 x, .pointer (some ⟨lb, 0, none⟩)] w fun e w' => e = .returned (.bool (hasF L x)) /\ w = w' := by
 have hs := bsch_any lo lc L x w w.heap.size h.2.1 (by have := h.1; omega) hr;rw [<- h.1] at hs;have HS := Lib.hid hs;have hl := World.block_lt_of_cell? w _ hc;dsimp only at hl;clear hs h
 go_enter Tryz.func43, Tryz.ntmps43
 go_wp2_with fail
 refine HS.out.mono ?_;rintro e w1 ⟨p, rfl, rfl⟩;go_wp2;go_ret;exact ⟨rfl, rfl⟩
theorem bdask_any {lo : Option Addr} {ln lc lb hb : Nat} {L : List Int} (x : Int) {w : World} (hc : w.cell? ⟨lb, 0, none⟩ = some (.slice lo ln lc)) (hh : w.cell? ⟨hb, 0, none⟩ = some (.func (.func 43) #[] #[.pointer (some ⟨lb, 0, none⟩)])) (h : LAt w lo ln lc L) (hr : Rising L) (hn : ln <= 1000000) :
  Calls Tryz.prog 47 (#[.int .u64 x] ++ #[.pointer (some ⟨hb, 0, none⟩)]) w fun e w' => e = .returned (.bool (!hasF L x)) /\ Below w.heap.size w w' := by
 have HQ := Lib.hid (bdq_any x hc h hr hn);have hl := World.block_lt_of_cell? w _ hh;dsimp only at hl;clear hc h;generalize hasF L x = b at *;show Calls Tryz.prog 47 #[.int .u64 x, .pointer (some ⟨hb, 0, none⟩)] w _
 go_enter Tryz.func47, Tryz.ntmps47
 go_wp2_with fail
 refine HQ.out.mono ?_;rintro e w1 ⟨rfl, rfl⟩;go_wp2;go_ret;exact ⟨rfl, Below.refl _ _⟩
end
end Go.Proofs.YtpkoapmpknbgoaaGreat
