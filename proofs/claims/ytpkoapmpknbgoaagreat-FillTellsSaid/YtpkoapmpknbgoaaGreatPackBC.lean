/- Joined: Lex, Lex2, Lex3, Kit, Kit2, NrU, DfA, FiC, DfC, WdM: contracts and plain laws, each with its own heading below. -/
import Derived.Orders
import Derived.Still
import Derived.Tactics
import Derived.KernelRfl
import Derived.WalkKit
import Derived.WalkSpells
import Derived.WalkLawsBesides
import Derived.Handy
import Derived.Lib.Hide
import Derived.BigQuiet
import Derived.Deep.QuietTactic
import Derived.Deep.AppendLies
import Derived.Deep.LoopGhost
import Derived.Sort.Row
import Derived.Test.YtpkoapmpknbgoaaGreatPackBB
import Derived.Lib.Walk
import Derived.Lib.SliceRun
import Derived.Lib.SlicesCompact
import Derived.Deep.Draws
import Derived.Laws.CopyOwn
import Derived.Lib.OwnBridge
import Derived.OwnWalk
import Derived.Deep.RegionLaw
import Derived.Test.YtpkoapmpknbgoaaGreatProg
import Derived.Lib.Mul64
import Derived.Shelf.Bits.Mul64
import Derived.Laws.Bits64b
import Derived.Laws.Externs
import Derived.Deep.RegionWith
set_option maxRecDepth 100000
set_option maxHeartbeats 8000000
namespace Go.Proofs.YtpkoapmpknbgoaaGreat
section
open Go Go.RowKit
theorem pq:(∀ l:List Value,[]++l=l)/\(∀(a:Value)(l m:List Value),(a::l)++m=a::(l++m))/\(∀(a:Act)(v:Value),a.put none v=a)/\(∀(a:Act)(d:Tmp)(v:Value),a.put (some d) v={a with tmps:=a.tmps.setIfInBounds d v})/\(∀(l:List Value)(i:Nat)(v:Value),l.toArray.setIfInBounds i v=(l.set i v).toArray)/\(∀(a b:Value)(l:List Value),(a::l).set 0 b=b::l)/\∀(a b:Value)(l:List Value)(n:Nat),(a::l).set (n+1) b=a::l.set n b:=⟨fun _=>rfl,fun _ _ _=>rfl,fun _ _=>rfl,fun _ _ _=>rfl,fun l i v=>List.setIfInBounds_toArray l i v,fun _ _ _=>rfl,fun _ _ _ _=>rfl⟩
theorem br{n:Nat}{w:World}:Below n w w:=Below.refl n w
theorem lr{n:Nat}:n<=n:=Nat.le_refl n
theorem hxo(w:World){x:World}(h:Below w.heap.size w.drew x):Below w.heap.size w x:=((Below.refl w.heap.size w).drew).trans h
theorem Hd{p:Prop}(h:p):Hid p:=Lib.hid h
end
section
open Go
def CS{α:Type}(m:Sem α):Prop:=∀P w x w',m.run P w=.ok x w'->w'=w/\∀w2,m.run P w2=.ok x w2
def RS{α:Type}(m:Sem α):Prop:=∀P w x w',m.run P w=.ok x w'->w'=w
def NS{α:Type}(m:Sem α):Prop:=∀P w x w',m.run P w≠ .ok x w'
theorem CS.rs{α:Type}{m:Sem α}(h:CS m):RS m:=fun P w x w' e=>(h P w x w' e).1
theorem NS.cs{α:Type}{m:Sem α}(h:NS m):CS m:=fun P w x w' e=>(h P w x w' e).elim
theorem NS.rs{α:Type}{m:Sem α}(h:NS m):RS m:=h.cs.rs
theorem CS_pure{α:Type}(a:α):CS (pure a:Sem α):=fun P w x w' e=>by
 have:(.ok a w:Result α)=.ok x w':=e;cases this;exact⟨rfl,fun _=>rfl⟩
theorem CS_program:CS program:=fun P w x w' e=>by
 have:(.ok P w:Result Program)=.ok x w':=e;cases this;exact⟨rfl,fun _=>rfl⟩
theorem NS_stuck{α:Type}(s:String):NS (stuck s:Sem α):=fun P w x w' e=>by
 have:(.halt (.stuck s) w:Result α)=.ok x w':=e;cases this
theorem NS_unsupported{α:Type}(u:Unsupported):NS (unsupported u:Sem α):=fun P w x w' e=>by
 have:(.halt (.unsupported u) w:Result α)=.ok x w':=e;cases this
theorem NS_goPanic{α:Type}(v:Value):NS (goPanic v:Sem α):=fun P w x w' e=>by
 have:(.halt (.panic v) w:Result α)=.ok x w':=e;cases this
theorem run_bind_ok{α β:Type}{m:Sem α}{f:α->Sem β}{P:Program}{w w':World}{x:β}(e:(m >>= f).run P w=.ok x w'):
  ∃a w1,m.run P w=.ok a w1/\(f a).run P w1=.ok x w':=by
 rw[Sem.run_bind]at e;cases h:m.run P w with
 |ok a w1=>rw[h]at e;exact⟨a,w1,rfl,e⟩
 |halt h1 w1=>rw[h]at e;simp[Result.andThen]at e
theorem run_bind_mk{α β:Type}{m:Sem α}{f:α->Sem β}{P:Program}{w w1 w':World}{a:α}{x:β}(h:m.run P w=.ok a w1)(e:(f a).run P w1=.ok x w'):
  (m >>= f).run P w=.ok x w':=by
 rw[Sem.run_bind,h];exact e
theorem CS_bind{α β:Type}{m:Sem α}{f:α->Sem β}(h:CS m)(hf:∀a,CS (f a)):CS (m >>= f):=fun P w x w' e=>by
 obtain⟨a,w1,h1,h2⟩:=run_bind_ok e;obtain⟨rfl,g1⟩:=h P w a w1 h1;obtain⟨rfl,g2⟩:=hf a P _ x w' h2;exact⟨rfl,fun w2=>run_bind_mk (g1 w2) (g2 w2)⟩
theorem RS_bind{α β:Type}{m:Sem α}{f:α->Sem β}(h:RS m)(hf:∀a,RS (f a)):RS (m >>= f):=fun P w x w' e=>by
 obtain⟨a,w1,h1,h2⟩:=run_bind_ok e;have:=h P w a w1 h1;subst this;exact hf a P _ x w' h2
theorem NS_bind_left{α β:Type}{m:Sem α}{f:α->Sem β}(h:NS m):NS (m >>= f):=fun P w x w' e=>by
 obtain⟨a,w1,h1,_⟩:=run_bind_ok e;exact h P w a w1 h1
theorem NS_bind{α β:Type}{m:Sem α}{f:α->Sem β}(hf:∀a,NS (f a)):NS (m >>= f):=fun P w x w' e=>by
 obtain⟨a,w1,_,h2⟩:=run_bind_ok e;exact hf a P w1 x w' h2
theorem RS_load(a:Addr)(m:Mode):RS (load a m):=fun P w x w' e=>by
 unfold load at e;simp only[Sem.run]at e
 split at e
 ·cases e;rfl
 ·split at e
  ·cases e;rfl
  ·cases e
theorem NS_runtimePanic{α:Type}(r:RuntimeError):NS (runtimePanic r:Sem α):=by
 unfold runtimePanic;refine NS_bind fun p=>?_
 cases r <;> simp only[]
 case typeAssertion=>exact NS_bind fun _=>NS_bind fun _=>NS_goPanic _
 case panicNil=>exact NS_bind fun _=>NS_bind fun _=>NS_goPanic _
 all_goals exact NS_goPanic _
theorem NS_boundsPanic{α:Type}(k:IntKind)(x y:Int)(c:BoundsCode):NS (boundsPanic k x y c:Sem α):=by
 unfold boundsPanic;dsimp only
 split
 ·exact NS_bind fun _=>NS_runtimePanic _
 ·exact NS_bind fun _=>NS_runtimePanic _
theorem CS_ite{α:Type}{c:Prop}[Decidable c]{a b:Sem α}(ha:CS a)(hb:CS b):CS (if c then a else b):=by split <;> assumption
theorem CS_typeInfo(t:TypeId):CS (typeInfo t):=CS_bind CS_program fun p=>by split <;> first|exact CS_pure _|exact(NS_stuck _).cs
theorem CS_underlying(t:TypeId):CS (underlying t):=CS_bind CS_program fun p=>by split <;> first|exact CS_pure _|exact(NS_stuck _).cs
theorem CS_sizeOf(t:TypeId):CS (sizeOf t):=CS_bind (CS_typeInfo t) fun _=>CS_pure _
theorem CS_zeroValue(t:TypeId):CS (zeroValue t):=CS_bind (CS_typeInfo t) fun _=>by split <;> first|exact CS_pure _|exact(NS_unsupported _).cs
theorem CS_isAgg(t:TypeId):CS (isAgg t):=CS_bind (CS_underlying t) fun d=>by split <;> exact CS_pure _
theorem CS_part(t:TypeId)(cs:Array Value)(off:Nat):CS (part t cs off):=by
 unfold part;refine CS_bind (CS_isAgg t) fun b=>?_
 refine CS_ite (CS_bind (CS_sizeOf t) fun _=>CS_pure _) ?_
 split
 ·exact CS_pure _
 ·exact(NS_stuck _).cs
theorem CS_asIntOf(v:Value):CS (asIntOf v):=by unfold asIntOf;split <;> first|exact CS_pure _|exact(NS_unsupported _).cs|exact(NS_stuck _).cs
theorem CS_asBool(v:Value):CS (asBool v):=by unfold asBool;split <;> first|exact CS_pure _|exact(NS_stuck _).cs
theorem CS_asAgg(v:Value):CS (asAgg v):=by unfold asAgg;split <;> first|exact CS_pure _|exact(NS_stuck _).cs
theorem CS_asAddr(v:Value):CS (asAddr v):=by unfold asAddr;split <;> first|exact CS_pure _|exact(NS_runtimePanic _).cs|exact(NS_stuck _).cs
theorem CS_sureAddr(v:Value):CS (Instr.sureAddr v):=by unfold Instr.sureAddr;split <;> first|exact CS_pure _|exact(NS_stuck _).cs
theorem RS_shape(r:Nat):RS (shape r):=fun P w x w' e=>by
 have:(.ok (w.shape? r) w:Result _)=.ok x w':=e;cases this;rfl
theorem RS_getObj(r:Nat):RS (getObj r):=fun P w x w' e=>by
 unfold getObj at e;simp only[Sem.run]at e
 split at e
 ·cases e
 ·cases e;rfl
 ·cases e
theorem RS_viewAt(r:Nat):RS (viewAt r):=by
 unfold viewAt;refine RS_bind (RS_shape r) fun s=>?_
 split
 ·exact(CS_pure _).rs
 ·refine RS_bind (RS_getObj r) fun o=>?_
  split <;> exact(CS_pure _).rs
theorem RS_noView(a:Addr):RS (noView a):=by
 unfold noView;refine RS_bind (RS_viewAt _) fun s=>?_
 split
 ·exact(NS_unsupported _).rs
 ·exact(CS_pure _).rs
theorem RS_byteOf(a:Addr):RS (byteOf a):=by
 unfold byteOf;dsimp only
 split
 ·exact(CS_pure _).rs
 ·refine RS_bind CS_program.rs fun p=>RS_bind (RS_noView a) fun _=>RS_bind (RS_shape _) fun s=>?_
  split
  ·split
   ·exact(CS_pure _).rs
   ·split
    ·exact(CS_pure _).rs
    ·exact(NS_stuck _).rs
  ·exact(NS_stuck _).rs
theorem RS_partAt(a:Addr)(c b:Nat):RS (partAt a c b):=by
 unfold partAt;exact RS_bind (RS_byteOf a) fun x=>RS_bind (RS_byteOf _) fun y=>(CS_pure _).rs
theorem RS_fieldPlace(a:Addr)(f:Field):RS (fieldPlace a f):=by
 unfold fieldPlace;refine RS_bind (CS_sizeOf _).rs fun n=>?_
 split
 ·exact RS_partAt _ _ _
 ·exact(CS_pure _).rs
theorem RS_loadCellsFrom(a:Addr):∀(n i:Nat) (acc:Array Value),RS (loadCellsFrom a i n acc)
 |0,_,_=>(CS_pure _).rs
 |n+1,i,_=>RS_bind (RS_load _ _) fun _=>RS_loadCellsFrom a n (i+1) _
theorem RS_loadVar(t:TypeId)(a:Addr):RS (loadVar t a):=by
 unfold loadVar;refine RS_bind (CS_isAgg t).rs fun b=>?_
 split
 ·refine RS_bind (CS_sizeOf t).rs fun n=>RS_bind (RS_loadCellsFrom _ _ _ _) fun _=>(CS_pure _).rs
 ·exact RS_load _ _
theorem RS_loadAt(t:TypeId)(v:Value):RS (Instr.loadAt t v):=RS_bind (CS_sureAddr v).rs fun _=>RS_loadVar _ _
theorem RS_fieldAt(s:TypeId)(v:Value)(f:Nat):RS (Instr.fieldAt s v f):=by
 unfold Instr.fieldAt;refine RS_bind (CS_underlying s).rs fun d=>?_
 split
 ·split
  ·exact RS_bind (CS_sureAddr v).rs fun _=>RS_bind (RS_fieldPlace _ _) fun _=>(CS_pure _).rs
  ·exact(NS_stuck _).rs
 ·exact(NS_stuck _).rs
theorem CS_indexAt(t:TypeId)(x i:Value):CS (Instr.indexAt t x i):=by
 unfold Instr.indexAt;refine CS_bind (CS_asIntOf i) fun ki=>?_
 obtain⟨k,i⟩:=ki;dsimp only;refine CS_bind (CS_underlying t) fun d=>?_
 split
 ·refine CS_bind (CS_sureAddr _) fun q=>CS_bind (CS_pure _) fun q=>CS_bind (CS_underlying t) fun d2=>?_
  split
  ·split
   ·exact CS_bind (CS_sizeOf _) fun _=>CS_pure _
   ·split <;> (split <;> first|exact(NS_unsupported _).cs|exact(NS_boundsPanic _ _ _ _).cs)
  ·exact(NS_boundsPanic _ _ _ _).cs
 ·refine CS_bind (CS_pure _) fun q=>CS_bind (CS_underlying t) fun d2=>?_
  split
  ·split
   ·exact CS_bind (CS_sizeOf _) fun _=>CS_pure _
   ·split <;> (split <;> first|exact(NS_unsupported _).cs|exact(NS_boundsPanic _ _ _ _).cs)
  ·exact(NS_boundsPanic _ _ _ _).cs
 ·exact(NS_bind_left (NS_stuck _)).cs
theorem CS_field(t:TypeId)(x:Value)(f:Nat):CS (Instr.field t x f):=by
 unfold Instr.field;refine CS_bind (CS_underlying t) fun d=>?_
 split
 ·split
  ·exact CS_bind (CS_asAgg x) fun _=>CS_part _ _ _
  ·exact(NS_stuck _).cs
 ·exact(NS_stuck _).cs
theorem CS_index(t:TypeId)(x i:Value):CS (Instr.index t x i):=by
 unfold Instr.index;refine CS_bind (CS_asIntOf i) fun ki=>?_
 obtain⟨k,i⟩:=ki;dsimp only;refine CS_bind (CS_underlying t) fun d=>?_
 split
 ·split
  ·exact CS_bind (CS_sizeOf _) fun _=>CS_part _ _ _
  ·exact(NS_boundsPanic _ _ _ _).cs
 ·split
  ·exact CS_pure _
  ·exact(NS_boundsPanic _ _ _ _).cs
 ·exact(NS_stuck _).cs
theorem CS_extract(x:Value)(i:Nat):CS (Instr.extract x i):=by
 unfold Instr.extract
 split
 ·split
  ·exact CS_pure _
  ·exact(NS_stuck _).cs
 ·exact(NS_stuck _).cs
theorem CS_listMapM{α β:Type}(f:α->Sem β)(hf:∀a,CS (f a)):∀l:List α,CS (l.mapM f)
 |[]=>by rw[List.mapM_nil];exact CS_pure _
 |a::l=>by rw[List.mapM_cons];exact CS_bind (hf a) fun _=>CS_bind (CS_listMapM f hf l) fun _=>CS_pure _
theorem CS_build(t:TypeId)(parts:Array (Nat×Value)):CS (Instr.build t parts):=by
 unfold Instr.build;refine CS_bind (CS_zeroValue t) fun z=>CS_bind (CS_underlying t) fun d=>?_
 split
 ·refine CS_bind ?_ fun places=>?_
  ·rw[Array.mapM_eq_mapM_toList]
   exact CS_bind (CS_listMapM _ (fun f=>CS_bind (CS_sizeOf _) fun _=>CS_pure _) _) fun _=>CS_pure _
  ·split
   ·exact CS_pure _
   ·exact(NS_stuck _).cs
 ·refine CS_bind (CS_sizeOf _) fun n=>?_
  split
  ·exact CS_pure _
  ·exact(NS_stuck _).cs
 ·exact(NS_stuck _).cs
theorem CS_intArith(op:BinOp)(k:IntKind)(x y:Int):CS (Op.intArith op k x y):=by
 unfold Op.intArith;split <;> first|exact CS_pure _|exact(NS_stuck _).cs
theorem CS_intDiv(op:BinOp)(k:IntKind)(x y:Int):CS (Op.intDiv op k x y):=by
 unfold Op.intDiv;refine CS_ite (NS_runtimePanic _).cs ?_
 split <;> first|exact CS_pure _|exact(NS_stuck _).cs
theorem CS_intBits(op:BinOp)(k:IntKind)(x y:Int):CS (Op.intBits op k x y):=by
 unfold Op.intBits;dsimp only;split <;> first|exact CS_pure _|exact(NS_stuck _).cs
theorem CS_intCmp(op:BinOp)(x y:Int):CS (Op.intCmp op x y):=by
 unfold Op.intCmp;split <;> first|exact CS_pure _|exact(NS_stuck _).cs
theorem CS_shift(op:BinOp)(k:IntKind)(x:Int)(yk:IntKind)(y:Int):CS (Op.shift op k x yk y):=by
 unfold Op.shift;refine CS_ite (NS_runtimePanic _).cs ?_;dsimp only
 split <;> first|exact CS_pure _|exact(NS_stuck _).cs
theorem CS_stringOp(op:BinOp)(x y:ByteArray):CS (Op.stringOp op x y):=by
 unfold Op.stringOp;dsimp only
 split
 ·exact CS_ite (NS_unsupported _).cs (CS_pure _)
 all_goals first|exact CS_pure _|exact(NS_stuck _).cs
theorem CS_unary(op:UnOp)(x:Value):CS (Op.unary op x):=by
 unfold Op.unary
 split <;> first|exact CS_intArith _ _ _ _|exact CS_intBits _ _ _ _|exact CS_pure _|exact(NS_unsupported _).cs|exact(NS_stuck _).cs
theorem CS_sliceBound(x:Value)(y:Nat)(c:BoundsCode):CS (Instr.sliceBound x y c):=by
 unfold Instr.sliceBound;refine CS_bind (CS_asIntOf x) fun q=>?_
 obtain⟨k,i⟩:=q;exact CS_ite (CS_pure _) (NS_boundsPanic _ _ _ _).cs
theorem CS_sliceBounds(b:Bool)(len cap:Nat)(lo hi mx:Option Value):CS (Instr.sliceBounds b len cap lo hi mx):=by
 unfold Instr.sliceBounds;cases mx <;> cases hi <;> cases lo <;> simp only[] <;>
  repeat' (first|exact CS_pure _|exact(NS_stuck _).cs|exact(NS_bind_left (NS_stuck _)).cs|exact CS_sliceBound _ _ _|(refine CS_bind ?_ fun _=>?_))
theorem CS_slice(t:TypeId)(x:Value)(lo hi mx:Option Value):CS (Instr.slice t x lo hi mx):=by
 unfold Instr.slice;refine CS_bind (CS_underlying t) fun d=>?_
 split
 ·split
  ·exact(NS_bind_left (NS_stuck _)).cs
  ·exact CS_bind (CS_sliceBounds _ _ _ _ _ _) fun _=>CS_pure _
 ·exact CS_bind (CS_sliceBounds _ _ _ _ _ _) fun _=>CS_bind (CS_sizeOf _) fun _=>CS_pure _
 ·refine CS_bind (CS_asAddr _) fun _=>CS_bind (CS_underlying _) fun _=>?_
  split
  ·exact CS_bind (CS_sliceBounds _ _ _ _ _ _) fun _=>CS_bind (CS_sizeOf _) fun _=>CS_pure _
  ·exact(NS_stuck _).cs
 ·exact(NS_stuck _).cs
theorem CS_sliceAt(t:TypeId)(x:Value)(lo hi mx:Option Value):CS (Instr.sliceAt t x lo hi mx):=by
 unfold Instr.sliceAt;refine CS_bind (CS_underlying t) fun d=>?_
 split
 ·exact CS_bind (CS_sureAddr _) fun _=>CS_bind (CS_sliceBounds _ _ _ _ _ _) fun _=>CS_bind (CS_sizeOf _) fun _=>CS_pure _
 ·exact CS_slice _ _ _ _ _
def gv:Value->Bool
 | .int _ _| .string _| .bool _| .slice _ _ _=>true
 |_=>false
def gp:Value->Bool
 | .pointer (some _)=>true
 |v=>gv v
theorem CS_equalIn(n:Nat)(t:TypeId)(x y:Value)(hx:gv x=true)(hy:gv y=true):CS (Op.equalIn n t x y):=by
 cases n with
 |zero=>exact(NS_unsupported _).cs
 |succ n=>
  unfold Op.equalIn;refine CS_bind (CS_underlying t) fun d=>?_
  split <;> first
   |exact CS_pure _
   |exact CS_ite (CS_pure _) (NS_stuck _).cs
   |exact(NS_stuck _).cs
   |(simp[gv]at hx;done)
   |(simp[gv]at hy;done)
theorem CS_binOp(op:BinOp)(t:TypeId)(x y:Value)(hx:gv x=true)(hy:gv y=true):CS (binOp op t x y):=by
 have heq:=CS_equalIn Op.maxDepth t x y hx hy;have e1:CS (do pure (.bool (<- Op.equal t x y)):Sem Value):=CS_bind heq fun _=>CS_pure _
 have e2:CS (do pure (.bool (!(<- Op.equal t x y))):Sem Value):=CS_bind heq fun _=>CS_pure _
 unfold binOp;cases x <;> simp[gv]at hx <;> cases y <;> simp[gv]at hy <;> cases op <;> dsimp only <;> first
  |exact e1
  |exact e2
  |exact CS_shift _ _ _ _ _
  |exact CS_stringOp _ _ _
  |exact(NS_stuck _).cs
  |(refine CS_ite (NS_stuck _).cs ?_;first|exact CS_intArith _ _ _ _|exact CS_intDiv _ _ _ _|exact CS_intBits _ _ _ _|exact CS_intCmp _ _ _)
theorem CS_eqGuard(op:BinOp)(t:TypeId)(x y:Operand)(a b:Value)(ha:gv a=true):CS (eqGuard op t x y a b):=by
 unfold eqGuard;cases a <;> simp[gv]at ha <;> cases op <;> first|exact CS_pure _|(cases b <;> exact CS_pure _)
theorem CS_min2(x y:Value)(hx:gv x=true)(hy:gv y=true):CS (Builtin.min2 x y):=by
 cases x <;> simp[gv]at hx <;> cases y <;> simp[gv]at hy <;> unfold Builtin.min2 <;> first
  |exact CS_pure _
  |exact CS_bind (CS_stringOp _ _ _) fun _=>CS_bind (CS_asBool _) fun _=>CS_pure _
  |exact(NS_stuck _).cs
theorem CS_max2(x y:Value)(hx:gv x=true)(hy:gv y=true):CS (Builtin.max2 x y):=by
 cases x <;> simp[gv]at hx <;> cases y <;> simp[gv]at hy <;> unfold Builtin.max2 <;> first
  |exact CS_pure _
  |exact CS_bind (CS_stringOp _ _ _) fun _=>CS_bind (CS_asBool _) fun _=>CS_pure _
  |exact(NS_stuck _).cs
theorem CS_len(ts:Array TypeId)(t:TypeId)(args:Array Value)(h:∀v,args[0]? =some v->gv v=true):CS (Builtin.len_ ts t args):=by
 unfold Builtin.len_
 split
 ·rename_i u x h2
  have hx:=h x (Prod.mk.inj h2).2;clear h2;refine CS_bind (CS_underlying _) fun d=>?_
  cases x <;> simp[gv]at hx <;> split <;> first
   |exact CS_pure _
   |exact(NS_stuck _).cs
   |contradiction
   |(refine CS_bind (CS_underlying _) fun d=>?_;split <;> first|exact CS_pure _|exact(NS_stuck _).cs)
 ·exact(NS_stuck _).cs
theorem CS_cap(ts:Array TypeId)(t:TypeId)(args:Array Value)(h:∀v,args[0]? =some v->gv v=true):CS (Builtin.cap_ ts t args):=by
 unfold Builtin.cap_
 split
 ·rename_i u x h2
  have hx:=h x (Prod.mk.inj h2).2;clear h2;refine CS_bind (CS_underlying _) fun d=>?_
  cases x <;> simp[gv]at hx <;> split <;> first
   |exact CS_pure _
   |exact(NS_stuck _).cs
   |contradiction
   |(refine CS_bind (CS_underlying _) fun d=>?_;split <;> first|exact CS_pure _|exact(NS_stuck _).cs)
 ·exact(NS_stuck _).cs
def CV(m:Sem Next):Prop:=∀P w x w',m.run P w=.ok x w'->(∃ v,x=.value v)/\w'=w/\∀w2,m.run P w2=.ok x w2
def RV(m:Sem Next):Prop:=∀P w x w',m.run P w=.ok x w'->(∃ v,x=.value v)/\w'=w
theorem CV.rv{m:Sem Next}(h:CV m):RV m:=fun P w x w' e=>⟨(h P w x w' e).1,(h P w x w' e).2.1⟩
theorem CV_of{s:Sem Value}(h:CS s):CV (do pure (.value (<- s))):=fun P w x w' e=>by
 obtain⟨a,w1,h1,h2⟩:=run_bind_ok e;have h3:(.ok (.value a) w1:Result Next)=.ok x w':=h2;cases h3;obtain⟨rfl,g⟩:=h P w a _ h1;exact⟨⟨a,rfl⟩,rfl,fun w2=>run_bind_mk (g w2) rfl⟩
theorem RV_of{s:Sem Value}(h:RS s):RV (do pure (.value (<- s))):=fun P w x w' e=>by
 obtain⟨a,w1,h1,h2⟩:=run_bind_ok e;have h3:(.ok (.value a) w1:Result Next)=.ok x w':=h2;cases h3;exact⟨⟨a,rfl⟩,h P w a _ h1⟩
theorem CV_pure(v:Value):CV (pure (.value v)):=fun P w x w' e=>by
 have h3:(.ok (.value v) w:Result Next)=.ok x w':=e;cases h3;exact⟨⟨v,rfl⟩,rfl,fun _=>rfl⟩
theorem CV_bind{α:Type}{s:Sem α}{f:α->Sem Next}(h:CS s)(hf:∀a,CV (f a)):CV (s >>= f):=fun P w x w' e=>by
 obtain⟨a,w1,h1,h2⟩:=run_bind_ok e;obtain⟨rfl,g1⟩:=h P w a w1 h1;obtain⟨hv,rfl,g2⟩:=hf a P _ x w' h2;exact⟨hv,rfl,fun w2=>run_bind_mk (g1 w2) (g2 w2)⟩
def kindOf:Op->Nat
 | .move _| .assign _| .pick .. | .indexAddr .. | .field .. | .index .. | .extract .. | .build .. | .unOp .. | .slice .. | .binOp .. | .nilCheck _=>0
 | .call c=>match c.callee with
  | .builtin .len| .builtin .cap=>if c.args.size=1 then 0 else 2
  | .builtin .min| .builtin .max=>if c.args.size=2 then 0 else 2
  |_=>2
 | .load .. | .fieldAddr .. =>1
 |_=>2
def asksVals:Op->Bool
 | .binOp .. | .nilCheck _| .call _=>true
 |_=>false
def goodVals(ρ:Operand->Value):Op->Bool
 | .binOp _ _ x y _=>gv (ρ x)&&gv (ρ y)
 | .nilCheck x=>gp (ρ x)
 | .call c=>match c.callee with
  | .builtin .len| .builtin .cap| .builtin .min| .builtin .max=>c.args.all fun x=>gv (ρ x)
  |_=>true
 |_=>true
theorem RV_kind1{ρ:Operand->Value}{o:Oper}(h:kindOf o.op=1):RV (execOp ρ o):=by
 obtain⟨dst,op,type,pos,after,guard⟩:=o;cases op <;> simp[kindOf]at h <;> unfold execOp
 case load t a=>exact RV_of (RS_loadAt _ _)
 case fieldAddr t x f=>exact RV_of (RS_fieldAt _ _ _)
 case call c=>split at h <;> (try split at h) <;> simp at h
theorem all2{p:Operand->Bool}{args:Array Operand}(h:args.all p=true):∀x∈args.toList,p x=true:=fun x hx=>by
 rw[Array.all_eq_true_iff_forall_mem]at h;exact h x (by simpa using hx)
theorem CV_call(ρ:Operand->Value)(c:Call)(t:TypeId)(hk:kindOf (.call c)=0)(hg:goodVals ρ (.call c)=true):
  CV (do let d<-resolve ρ c t;invoke d.target d.args):=by
 obtain⟨callee,args,ts⟩:=c;cases callee with
 |value f=>simp[kindOf]at hk
 |invoke r m=>simp[kindOf]at hk
 |builtin b=>
  have hres:∀(s:Sem Next),(do let d<-(pure { target:=.builtin b ts t (args.map fun| .const _=>true|_=>false),args:=args.map ρ }:Sem Deferred);invoke d.target d.args)=s->CV s->CV (do let d<-(pure { target:=.builtin b ts t (args.map fun| .const _=>true|_=>false),args:=args.map ρ }:Sem Deferred);invoke d.target d.args):=fun s e h=>e ▸ h
  show CV (do let d<-(pure { target:=.builtin b ts t (args.map fun| .const _=>true|_=>false),args:=args.map ρ }:Sem Deferred);invoke d.target d.args);have hone:∀v,(args.map ρ)[0]? =some v->(args.all fun x=>gv (ρ x))=true->gv v=true:=fun v hv ha=>by
   rw[Array.getElem?_map]at hv;cases h0:args[0]? with
   |none=>simp[h0]at hv
   |some x=>
    simp[h0]at hv;subst hv;exact all2 (p:=fun x=>gv (ρ x)) ha x (by simpa using Array.mem_of_getElem? h0)
  have htwo:args.size=2->(args.all fun x=>gv (ρ x))=true->∃u v,(args.map ρ).toList=[u,v]/\gv u=true/\gv v=true:=fun hs ha=>by
   obtain⟨l⟩:=args
   match l,hs with
   |[x,y],_=>
    have:=all2 (p:=fun x=>gv (ρ x)) ha;exact⟨ρ x,ρ y,by simp,this x (by simp),this y (by simp)⟩
  cases b <;> simp[kindOf]at hk <;> simp only[goodVals]at hg
  case len=>exact CV_of (CS_len ts t _ fun v hv=>hone v hv hg)
  case cap=>exact CV_of (CS_cap ts t _ fun v hv=>hone v hv hg)
  case min=>
   obtain⟨u,v,huv,hu,hv⟩:=htwo hk hg;refine CV_of (s:=Builtin.min_ ts t (args.map ρ)) ?_;unfold Builtin.min_;rw[huv];simp only[List.foldlM_cons,List.foldlM_nil];exact CS_bind (CS_min2 _ _ hu hv) fun _=>CS_pure _
  case max=>
   obtain⟨u,v,huv,hu,hv⟩:=htwo hk hg;refine CV_of (s:=Builtin.max_ ts t (args.map ρ)) ?_;unfold Builtin.max_;rw[huv];simp only[List.foldlM_cons,List.foldlM_nil];exact CS_bind (CS_max2 _ _ hu hv) fun _=>CS_pure _
theorem CV_kind0{ρ:Operand->Value}{o:Oper}(h:kindOf o.op=0)(hg:goodVals ρ o.op=true):CV (execOp ρ o):=by
 obtain⟨dst,op,type,pos,after,guard⟩:=o;cases op
 case call c=>exact CV_call ρ c type h hg
 case nilCheck x=>
  unfold execOp;simp only[goodVals]at hg;dsimp only;generalize ρ x=v at hg ⊢;cases v <;> first|exact CV_pure _|(simp[gp,gv]at hg;done)|(rename_i p;cases p <;> first|exact CV_pure _|(simp[gp,gv]at hg;done))
 case binOp op t x y u=>
  unfold execOp;simp only[goodVals,Bool.and_eq_true]at hg;exact CV_of (CS_bind (CS_eqGuard _ _ _ _ _ _ hg.1) fun _=>CS_binOp _ _ _ _ hg.1 hg.2)
 case move x=>exact CV_pure _
 case assign x=>exact CV_pure _
 case pick c a b=>
  unfold execOp;exact CV_bind (CS_asBool _) fun _=>CV_pure _
 case indexAddr t x i=>exact CV_of (CS_indexAt _ _ _)
 case field t x f=>exact CV_of (CS_field _ _ _)
 case index t x i=>exact CV_of (CS_index _ _ _)
 case extract x i=>exact CV_of (CS_extract _ _)
 case build t ps=>exact CV_of (CS_build _ _)
 case unOp op t x=>exact CV_of (CS_unary _ _)
 case slice t x lo hi mx=>exact CV_of (CS_sliceAt _ _ _ _ _)
 all_goals simp[kindOf]at h
def Only(K:Act->World->Prop):Exit->Act->World->Prop
 | .normal,a,w=>K a w
 |_,_,_=>False
theorem Only.lets{K:Act->World->Prop}:¬LetsOut (Only K):=fun⟨_,_,h⟩=>h
section
variable {P : Program} {ops : Array Oper} {K : Act -> World -> Prop}
def stepG(P:Program)(ops:Array Oper)(i:Nat)(next:Act->World->Prop)(a:Act)(w:World):Prop:=
 match ops[i]? with
 |none=>False
 |some o=>if Region.wanted o (yielded ops a.tmps)then goodVals a.eval o.op=true/\o.wp P a w next (Only fun _ _=>False)else next (a.put o.dst undef) w
theorem only_wp{o:Oper}{a:Act}{w:World}{next:Act->World->Prop}{L:Act->World->Prop}(h:o.wp P a w next (Only fun _ _=>False)):o.wp P a w next (Only L):=by
 unfold Oper.wp at *;generalize(execOp a.eval o).run P w=r at *;cases r with
 |ok n w'=>
  cases n <;> simp only[Oper.upon]at h ⊢
  case enter f args=>
   refine Calls.mono h fun e w'' he=>?_
   cases e with
   |returned v=>exact he
   |panicked c=>exact he
   |outgrown=>exact(Only.lets he).elim
  all_goals exact h
 |halt x w'=>
  cases x <;> simp only[Oper.upon]at h ⊢
  case panic v=>exact h
theorem stepG_mono{i:Nat}{n n':Act->World->Prop}{a:Act}{w:World}(hn:∀a w,n a w->n' a w)(h:stepG P ops i n a w):stepG P ops i n' a w:=by
 unfold stepG at*
 split
 ·rename_i ho;simp only[ho]at h
 ·rename_i o ho
  simp only[ho]at h
  split
  ·rename_i hw;simp only[hw,if_true]at h;exact⟨h.1,Oper.wp_mono hn h.2⟩
  ·rename_i hw;simp only[hw]at h;exact hn _ _ h
theorem stepG_wpOp{i:Nat}{n:Act->World->Prop}{a:Act}{w:World}(h:stepG P ops i n a w):wpOp P ops (Only K) i n a w:=by
 unfold stepG at h;unfold wpOp
 split
 ·rename_i ho;simp only[ho]at h
 ·rename_i o ho
  simp only[ho]at h
  split
  ·rename_i hw;simp only[hw,if_true]at h;exact .inl (only_wp h.2)
  ·rename_i hw;simp only[hw]at h;exact h
theorem wp_out{o:Oper}{a:Act}{w:World}{next:Act->World->Prop}(h:o.wp P a w next (Only fun _ _=>False)):
  ∃a1 w1 v,next a1 w1/\a1.tmps=(a.put o.dst v).tmps:=by
 unfold Oper.wp at h;generalize(execOp a.eval o).run P w=r at h;cases r with
 |ok n w'=>
  cases n <;> simp only[Oper.upon]at h
  case value v=>exact⟨_,_,v,h,rfl⟩
  case skip=>exact⟨_,_,undef,h,rfl⟩
  case defer d=>exact⟨_,_,undef,h,by cases o.dst <;> rfl⟩
  case enter f args=>
   obtain⟨e,w'',fr,hR,_⟩:=h [];cases e with
   |returned v=>exact⟨_,_,v,hR,rfl⟩
   |panicked c=>exact hR.elim
   |outgrown=>exact(Only.lets hR).elim
  case row row args=>
   obtain⟨v,w'',hR,_⟩:=h (Frame.enter P 0 #[] .normal) [];exact⟨_,_,v,hR,rfl⟩
 |halt x w'=>
  cases x <;> simp only[Oper.upon]at h
  case panic v=>exact h.elim
theorem eval_of_tmps{a b:Act}(h:a.tmps=b.tmps):a.eval=b.eval:=by
 funext x;cases x <;> simp[Act.eval,h]
theorem good_congr{ρ ρ':Operand->Value}(op:Op)(h:∀x∈op.operands,ρ x=ρ' x):goodVals ρ op=goodVals ρ' op:=by
 cases op <;> simp only[goodVals]
 case binOp b t x y u=>rw[h x (by simp[Op.operands]),h y (by simp[Op.operands])]
 case nilCheck x=>rw[h x (by simp[Op.operands])]
 case call c=>
  have hall:(c.args.all fun x=>gv (ρ x))=(c.args.all fun x=>gv (ρ' x)):=by
   rw[Bool.eq_iff_iff,Array.all_eq_true_iff_forall_mem,Array.all_eq_true_iff_forall_mem];exact⟨fun g x hx=>by rw[<- h x (by simp[Op.operands,Call.operands,hx])];exact g x hx,fun g x hx=>by rw[h x (by simp[Op.operands,Call.operands,hx])];exact g x hx⟩
  split <;> first|rfl|exact hall
theorem good_put{o:Oper}{a:Act}{dst:Option Tmp}{v:Value}(h:∀d,dst=some d->d∉o.looksAt ops):goodVals (a.put dst v).eval o.op=goodVals a.eval o.op:=
 good_congr o.op fun x hx=>Act.eval_put fun d hd hxd=>h d hd (by
  subst hxd;exact List.mem_append_left _ (List.mem_filterMap.2 ⟨.tmp d,by simpa using hx,rfl⟩))
theorem stepG_const{i:Nat}{o:Oper}(ho:ops[i]? =some o)(hk:kindOf o.op=0){n:Act->World->Prop}{a:Act}{w:World}(h:stepG P ops i n a w):
  ∃v,Yields P ops o v a/\n (a.put o.dst v) w:=by
 unfold stepG at h;simp only[ho]at h;by_cases hw:Region.wanted o (yielded ops a.tmps)=true
 ·simp only[hw,if_true]at h
  obtain⟨hg,h⟩:=h;unfold Oper.wp at h;have hc:=CV_kind0 hk hg;cases hr:(execOp a.eval o).run P w with
  |ok x w'=>
   obtain⟨⟨v,rfl⟩,rfl,hall⟩:=hc P w x w' hr;rw[hr]at h;exact⟨v,.inl ⟨hw,hall⟩,h⟩
  |halt x w'=>rw[hr]at h;cases x <;> simp only[Oper.upon]at h;exact h.elim
 ·simp only[hw]at h
  exact⟨undef,.inr ⟨by simpa using hw,rfl⟩,h⟩
theorem stepG_reads{i:Nat}{o:Oper}(ho:ops[i]? =some o)(hk:kindOf o.op<=1){n:Act->World->Prop}{a:Act}{w:World}(h:stepG P ops i n a w):
  ∃v,YieldsAt P ops w o v a/\n (a.put o.dst v) w:=by
 unfold stepG at h;simp only[ho]at h;by_cases hw:Region.wanted o (yielded ops a.tmps)=true
 ·simp only[hw,if_true]at h
  obtain⟨hg,h⟩:=h;unfold Oper.wp at h;have hc:RV (execOp a.eval o):=by
   rcases Nat.lt_or_ge (kindOf o.op) 1 with h0|h1
   ·exact(CV_kind0 (by omega) hg).rv
   ·exact RV_kind1 (by omega)
  cases hr:(execOp a.eval o).run P w with
  |ok x w'=>
   obtain⟨⟨v,rfl⟩,rfl⟩:=hc P w x w' hr;rw[hr]at h;exact⟨v,.inl ⟨hw,.inl hr⟩,h⟩
  |halt x w'=>rw[hr]at h;cases x <;> simp only[Oper.upon]at h;exact h.elim
 ·simp only[hw]at h
  exact⟨undef,.inr ⟨by simpa using hw,rfl⟩,h⟩
theorem stepG_in{i:Nat}{oi ot:Oper}{v:Value}(hi:ops[i]? =some oi)(hap:oi.apart ops ot=true)
  (hsi:∀cs b,oi.op≠ .select cs b) (hst:∀cs b,ot.op≠ .select cs b) {N M:Act->World->Prop} {a:Act} {w:World}
  (hN:∀a1 w1,N a1 w1->Yields P ops ot v a1->M (a1.put ot.dst v) w1)
  (hy:Yields P ops ot v a) (h:stepG P ops i N a w):stepG P ops i M (a.put ot.dst v) w:=by
 obtain⟨h1,h2,h3⟩:=Oper.apart_spec hap;have h2':∀d,ot.dst=some d->oi.dst≠some d:=fun d hd he=>h2 d he hd
 have keep:∀(a:Act),Yields P ops ot v a->∀u,Yields P ops ot v (a.put oi.dst u):=fun a hy u=>
  hy.of_same (execOp_put ot hst a oi.dst u h1) (wanted_put ot a oi.dst u h1)
 have keepD:∀d,Yields P ops ot v { a with defers:=d::a.defers }:=fun d=>hy.of_same rfl rfl
 unfold stepG at *;simp only[hi]at *;rw[wanted_put oi a ot.dst v h3]
 split
 ·rename_i hw
  simp only[hw,if_true]at h;obtain⟨hg,h⟩:=h;refine⟨by rw[good_put (ops:=ops) h3];exact hg,?_⟩;unfold Oper.wp at *;rw[execOp_put oi hsi a ot.dst v h3];generalize(execOp a.eval oi).run P w=r at *;cases r with
  |ok n w'=>
   cases n <;> simp only[Oper.upon]at h ⊢
   case value u=>rw[Act.put_comm a v u h2'];exact hN _ _ h (keep a hy u)
   case skip=>rw[Act.put_comm a v undef h2'];exact hN _ _ h (keep a hy undef)
   case defer d=>
    rw[Act.put_defers,Act.put_comm _ v undef h2'];exact hN _ _ h (keep _ (keepD d) undef)
   case enter f args=>
    refine Calls.mono h fun e w'' he=>?_
    cases e with
    |returned u=>dsimp only at he ⊢;rw[Act.put_comm a v u h2'];exact hN _ _ he (keep a hy u)
    |panicked c=>exact he
    |outgrown=>exact he
   case row row args=>exact Rows.mono h fun u w'' he=>by rw[Act.put_comm a v u h2'];exact hN _ _ he (keep a hy u)
  |halt x w'=>
   cases x <;> simp only[Oper.upon]at h ⊢
   case panic u=>exact h
 ·rename_i hw
  simp only[hw]at h;rw[Act.put_comm a v undef h2'];exact hN _ _ h (keep a hy undef)
def Yields1(P:Program)(ops:Array Oper)(w:World)(o:Oper)(v:Value)(a:Act):Prop:=
 (Region.wanted o (yielded ops a.tmps)=true/\(execOp a.eval o).run P w=.ok (.value v) w)∨(Region.wanted o (yielded ops a.tmps)=false/\v=undef)
theorem Yields_det{o:Oper}{v v':Value}{a:Act}(h:Yields P ops o v a)(h':Yields P ops o v' a)(w0:World):v=v':=by
 rcases h with⟨hw,hv⟩|⟨hw,rfl⟩ <;> rcases h' with⟨hw',hv'⟩|⟨hw',rfl⟩
 ·have:=(hv w0).symm.trans (hv' w0)
  cases this;rfl
 ·rw[hw]at hw';cases hw'
 ·rw[hw]at hw';cases hw'
 ·rfl
def GoodAt(ops:Array Oper)(o:Oper)(a:Act):Prop:=Region.wanted o (yielded ops a.tmps)=true->goodVals a.eval o.op=true
theorem stepG_good{i:Nat}{o:Oper}(hi:ops[i]? =some o){N:Act->World->Prop}{a:Act}{w:World}(h:stepG P ops i N a w):GoodAt ops o a:=by
 intro hw;unfold stepG at h;simp only[hi,hw,if_true]at h;exact h.1
theorem GoodAt_put{o:Oper}{a:Act}{dst:Option Tmp}{v:Value}(h:∀d,dst=some d->d∉o.looksAt ops):GoodAt ops o (a.put dst v)↔GoodAt ops o a:=by
 unfold GoodAt;rw[wanted_put o a dst v h,good_put (ops:=ops) h]
theorem GoodAt_tmps{o:Oper}{a b:Act}(h:a.tmps=b.tmps):GoodAt ops o a↔GoodAt ops o b:=by
 unfold GoodAt;rw[h,eval_of_tmps h]
theorem stepG_of_const{i:Nat}{o:Oper}{v:Value}{a:Act}{w:World}(hi:ops[i]? =some o)(hy:Yields P ops o v a)(hg:GoodAt ops o a)
  {N:Act->World->Prop} (h:N (a.put o.dst v) w):stepG P ops i N a w:=by
 unfold stepG;simp only[hi];rcases hy with⟨hw,hv⟩|⟨hw,rfl⟩
 ·simp only[hw,if_true];exact⟨hg hw,by unfold Oper.wp;rw[hv];exact h⟩
 ·simp only[hw,Bool.false_eq_true,if_false];exact h
theorem stepG_of_one{i:Nat}{o:Oper}{v:Value}{a:Act}{w:World}(hi:ops[i]? =some o)(hy:Yields1 P ops w o v a)(hg:GoodAt ops o a)
  {N:Act->World->Prop} (h:N (a.put o.dst v) w):stepG P ops i N a w:=by
 unfold stepG;simp only[hi];rcases hy with⟨hw,hv⟩|⟨hw,rfl⟩
 ·simp only[hw,if_true];exact⟨hg hw,by unfold Oper.wp;rw[hv];exact h⟩
 ·simp only[hw,Bool.false_eq_true,if_false];exact h
theorem stepG_behind{t:Nat}{oi ot:Oper}{v:Value}(ht:ops[t]? =some ot)(hap:oi.apart ops ot=true)
  (hsi:∀cs b,oi.op≠ .select cs b) (hst:∀cs b,ot.op≠ .select cs b) {N:Act->World->Prop} {a:Act} {w:World}
  (hy:Yields P ops oi v a) (hg:GoodAt ops oi a) (h:stepG P ops t N (a.put oi.dst v) w):
  stepG P ops t (fun a' w'=>(Yields P ops oi v a'/\GoodAt ops oi a')/\N (a'.put oi.dst v) w') a w:=by
 obtain⟨h1,h2,h3⟩:=Oper.apart_spec hap;have keep:∀(a:Act),Yields P ops oi v a/\GoodAt ops oi a->∀u,Yields P ops oi v (a.put ot.dst u)/\GoodAt ops oi (a.put ot.dst u):=fun a hy u=>
  ⟨hy.1.of_same (execOp_put oi hsi a ot.dst u h3) (wanted_put oi a ot.dst u h3),(GoodAt_put h3).2 hy.2⟩
 have keepD:∀d,Yields P ops oi v { a with defers:=d::a.defers }/\GoodAt ops oi { a with defers:=d::a.defers }:=fun d=>⟨hy.of_same rfl rfl,hg⟩
 unfold stepG at *;simp only[ht]at *;rw[wanted_put ot a oi.dst v h1]at h
 split
 ·rename_i hw
  simp only[hw,if_true]at h;obtain⟨hgt,h⟩:=h;refine⟨by rw[good_put (ops:=ops) h1]at hgt;exact hgt,?_⟩;unfold Oper.wp at *;rw[execOp_put ot hst a oi.dst v h1]at h;generalize(execOp a.eval ot).run P w=r at *;cases r with
  |ok n w'=>
   cases n <;> simp only[Oper.upon]at h ⊢
   case value u=>exact⟨keep a ⟨hy,hg⟩ u,by rw[<- Act.put_comm a v u h2];exact h⟩
   case skip=>exact⟨keep a ⟨hy,hg⟩ _,by rw[<- Act.put_comm a v undef h2];exact h⟩
   case defer d=>
    refine⟨keep _ (keepD d) _,?_⟩;rw[<- Act.put_comm _ v undef h2, <-Act.put_defers];exact h
   case enter f args=>
    refine Calls.mono h fun e w'' he=>?_
    cases e with
    |returned u=>exact⟨keep a ⟨hy,hg⟩ u,by rw[<- Act.put_comm a v u h2];exact he⟩
    |panicked c=>exact he
    |outgrown=>exact he
   case row row args=>exact Rows.mono h fun u w'' he=>⟨keep a ⟨hy,hg⟩ u,by rw[<- Act.put_comm a v u h2];exact he⟩
  |halt x w'=>
   cases x <;> simp only[Oper.upon]at h ⊢
   case panic u=>exact h
 ·rename_i hw
  simp only[hw]at h;exact⟨keep a ⟨hy,hg⟩ _,by rw[<- Act.put_comm a v undef h2];exact h⟩
theorem stepG_swap{i t:Nat}{oi ot:Oper}(hi:ops[i]? =some oi)(ht:ops[t]? =some ot)(hap:oi.apart ops ot=true)
  (hsi:∀cs b,oi.op≠ .select cs b) (hst:∀cs b,ot.op≠ .select cs b)
  (hk:kindOf oi.op=0∨kindOf ot.op=0∨(kindOf oi.op<=1/\kindOf ot.op<=1)) {N:Act->World->Prop} {a:Act} {w:World}
  (h:stepG P ops i (stepG P ops t N) a w):stepG P ops t (stepG P ops i N) a w:=by
 obtain⟨h1,h2,h3⟩:=Oper.apart_spec hap;have hgi:=stepG_good hi h;rcases hk with hk|hk|⟨hk1,hk2⟩
 ·obtain⟨v,hy,h4⟩:=stepG_const hi hk h
  exact stepG_mono (fun a' w' h5=>stepG_of_const hi h5.1.1 h5.1.2 h5.2) (stepG_behind ht hap hsi hst hy hgi h4)
 ·have hout:∃v,Yields P ops ot v a/\GoodAt ops ot a:=by
   have hex:∃a1 w1 u,stepG P ops t N a1 w1/\a1.tmps=(a.put oi.dst u).tmps:=by
    have h':=h;unfold stepG at h';simp only[hi]at h';by_cases hw:Region.wanted oi (yielded ops a.tmps)=true
    ·simp only[hw,if_true]at h'
     exact wp_out h'.2
    ·simp only[hw]at h'
     exact⟨_,_,undef,h',rfl⟩
   obtain⟨a1,w1,u,h5,htm⟩:=hex;obtain⟨v,hy,_⟩:=stepG_const ht hk h5;refine⟨v,hy.of_same ?_ ?_,?_⟩
   ·rw[eval_of_tmps htm,execOp_put ot hst a oi.dst u h1]
   ·rw[htm,wanted_put ot a oi.dst u h1]
   ·exact(GoodAt_put h1).1 ((GoodAt_tmps htm).1 (stepG_good ht h5))
  obtain⟨v,hy,hg⟩:=hout;refine stepG_of_const ht hy hg ?_;refine stepG_in hi hap hsi hst (fun a1 w1 h5 hy1=>?_) hy h;obtain⟨v',hy',h6⟩:=stepG_const ht hk h5;rw[Yields_det hy1 hy' w1];exact h6
 ·obtain⟨v,hy,h4⟩:=stepG_reads hi hk1 h
  obtain⟨u,hu,h5⟩:=stepG_reads ht hk2 h4;have hgt:=(GoodAt_put h1).1 (stepG_good ht h4);have hu':YieldsAt P ops w ot u a:=hu.of_same (execOp_put ot hst a oi.dst v h1).symm (wanted_put ot a oi.dst v h1).symm;have hy':YieldsAt P ops w oi v (a.put ot.dst u):=hy.of_same (execOp_put oi hsi a ot.dst u h3) (wanted_put oi a ot.dst u h3);have noEnter:∀{o:Oper} {a:Act},kindOf o.op<=1->GoodAt ops o a->∀x,YieldsAt P ops w o x a->Yields1 P ops w o x a:=fun {o a} hk hg x hx=>by
   rcases hx with⟨hw,hv|⟨hv,rfl⟩|⟨f,args,hv,hc⟩⟩|⟨hw,rfl⟩
   ·exact .inl ⟨hw,hv⟩
   ·have hr:RV (execOp a.eval o):=by
     rcases Nat.lt_or_ge (kindOf o.op) 1 with h0|h1
     ·exact(CV_kind0 (by omega) (hg hw)).rv
     ·exact RV_kind1 (by omega)
    obtain⟨⟨v,hv2⟩,_⟩:=hr P w _ w hv;cases hv2
   ·have hr:RV (execOp a.eval o):=by
     rcases Nat.lt_or_ge (kindOf o.op) 1 with h0|h1
     ·exact(CV_kind0 (by omega) (hg hw)).rv
     ·exact RV_kind1 (by omega)
    obtain⟨⟨v,hv2⟩,_⟩:=hr P w _ w hv;cases hv2
   ·exact .inr ⟨hw,rfl⟩
  refine stepG_of_one ht (noEnter hk2 hgt u hu') hgt ?_;refine stepG_of_one hi (noEnter hk1 ((GoodAt_put h3).2 hgi) v hy') ((GoodAt_put h3).2 hgi) ?_;rw[<- Act.put_comm a v u h2];exact h5
end
section
variable {P : Program} {ops : Array Oper} {K : Act -> World -> Prop}
def walkG(P:Program)(ops:Array Oper)(K:Act->World->Prop):List Nat->Act->World->Prop
 |[],a,w=>K a w
 |i::r,a,w=>stepG P ops i (walkG P ops K r) a w
def mayChange(ops:Array Oper)(i t:Nat):Prop:=
 ∀oi ot,ops[i]? =some oi->ops[t]? =some ot->oi.apart ops ot=true/\(kindOf oi.op=0∨kindOf ot.op=0∨(kindOf oi.op<=1/\kindOf ot.op<=1))
theorem walkG_first(hsel:Region.noSelect ops=true){i:Nat}(hlt:i<ops.size):∀(τ ρ:List Nat) (a:Act) (w:World),(∀ t∈τ,t<ops.size/\mayChange ops t i)->
  walkG P ops K (τ++i::ρ) a w->stepG P ops i (walkG P ops K (τ++ρ)) a w
 |[],ρ,a,w,_,h=>h
 |t::τ,ρ,a,w,hτ,h=>by
  obtain⟨ht,hc⟩:=hτ t (by simp);have h1:stepG P ops t (stepG P ops i (walkG P ops K (τ++ρ))) a w:=
   stepG_mono (fun a' w' h'=>walkG_first hsel hlt τ ρ a' w' (fun x hx=>hτ x (by simp[hx])) h') h
  have e1:ops[t]? =some ops[t]:=Array.getElem?_eq_getElem ht;have e2:ops[i]? =some ops[i]:=Array.getElem?_eq_getElem hlt;obtain⟨hap,hk⟩:=hc _ _ e1 e2;exact stepG_swap e1 e2 hap (fun cs b=>Region.noSelect_spec hsel t _ cs b e1) (fun cs b=>Region.noSelect_spec hsel i _ cs b e2) hk h1
def rem(ops:Array Oper)(listed:Array Bool):List Nat:=(List.range ops.size).filter fun i=> !listed.getD i true
theorem mem_rem{listed:Array Bool}{i:Nat}:i∈rem ops listed↔i<ops.size/\listed.getD i true=false:=by
 simp[rem]
theorem rem_split{listed:Array Bool}(hs:listed.size=ops.size){i:Nat}(hi:i∈rem ops listed):
  ∃τ ρ,rem ops listed=τ++i::ρ/\rem ops (listed.setIfInBounds i true)=τ++ρ/\∀t∈τ,t<i/\t∈rem ops listed:=by
 obtain⟨hlt,hun⟩:=mem_rem.1 hi;have hr:List.range ops.size=List.range i++i::List.range' (i+1) (ops.size-i-1):=by
  rw[List.range_eq_range',List.range_eq_range'];have h1:List.range' 0 ops.size=List.range' 0 i++List.range' (0+1*i) (ops.size-i):=by
   rw[List.range'_append];congr 1;omega
  rw[h1];congr 1;rw[show ops.size-i=(ops.size-i-1)+1 from by omega,List.range'_succ];simp
 refine⟨(List.range i).filter fun j=> !listed.getD j true,(List.range' (i+1) (ops.size-i-1)).filter fun j=> !listed.getD j true,?_,?_,?_⟩
 ·unfold rem
  rw[hr,List.filter_append,List.filter_cons];simp only[hun,Bool.not_false,if_true]
 ·unfold rem
  rw[hr,List.filter_append,List.filter_cons];have hin:(listed.setIfInBounds i true).getD i true=true:=by simp[hs,hlt]
  rw[hin];simp only[Bool.not_true,Bool.false_eq_true,if_false];congr 1
  ·refine List.filter_congr fun j hj=>?_
   rw[getD_set_ne true (by have:=List.mem_range.1 hj;omega)]
  ·refine List.filter_congr fun j hj=>?_
   rw[getD_set_ne true (by have:=(List.mem_range'_1.1 hj).1;omega)]
 ·intro t ht
  have h1:=List.mem_filter.1 ht;have h2:=List.mem_range.1 h1.1;exact⟨h2,mem_rem.2 ⟨by omega,by simpa using h1.2⟩⟩
def Closed(ops:Array Oper)(listed:Array Bool):Prop:=
 ∀j oj,ops[j]? =some oj->listed.getD j false=true->∀e∈oj.after,Region.binds .any e=true->listed.getD e.on false=true
theorem Closed.set{i:Nat}{listed:Array Bool}(h:Closed ops listed)(hi:i∈Region.ready .any ops listed):Closed ops (listed.setIfInBounds i true):=by
 intro j oj hj hl e he hb;obtain⟨_,oi,hoi,hall⟩:=mem_ready.1 hi;by_cases hij:i=j
 ·subst hij
  have:oj=oi:=Option.some.inj (hj.symm.trans hoi);subst this;exact getD_set_true (hall e he hb)
 ·rw[getD_set_ne false hij]at hl
  exact getD_set_true (h j oj hj hl e he hb)
theorem getD_replicate0(m j:Nat):(Array.replicate m false).getD j false=false:=by
 rcases Nat.lt_or_ge j m with h|h
 ·simp[h]
 ·simp[h]
def waits:List Oper->List Nat->List Nat
 |[],acc=>acc
 |o::r,acc=>waits r (acc++[o.after.toList.foldl (fun s e=>if Region.binds .any e then s ||| 2 ^ e.on ||| acc.getD e.on 0 else s) 0])
theorem foldl_or(acc:List Nat)(t:Nat):∀(es:List Edge) (s:Nat),(es.foldl (fun s e=>if Region.binds .any e then s ||| 2 ^ e.on ||| acc.getD e.on 0 else s) s).testBit t=true->
  s.testBit t=true∨∃e∈es,Region.binds .any e=true/\(e.on=t∨(acc.getD e.on 0).testBit t=true)
 |[],s,h=>.inl h
 |e::es,s,h=>by
  rw[List.foldl_cons]at h;rcases foldl_or acc t es _ h with h1|⟨e',he',hb,hx⟩
  ·by_cases hb:Region.binds .any e=true
   ·rw[if_pos hb,Nat.testBit_or,Nat.testBit_or,Nat.testBit_two_pow,Bool.or_eq_true,Bool.or_eq_true]at h1
    rcases h1 with(h1|h1)|h1
    ·exact .inl h1
    ·exact .inr ⟨e,by simp,hb,.inl (by simpa using h1)⟩
    ·exact .inr ⟨e,by simp,hb,.inr h1⟩
   ·rw[if_neg hb]at h1
    exact .inl h1
  ·exact .inr ⟨e',by simp[he'],hb,hx⟩
def Truth(ops:Array Oper)(acc:List Nat):Prop:=
 ∀i t,i<acc.length->(acc.getD i 0).testBit t=true->∃oi,ops[i]? =some oi/\∃e∈oi.after,Region.binds .any e=true/\(e.on=t∨(e.on<i/\(acc.getD e.on 0).testBit t=true))
theorem waits_truth(hback:∀i oi,ops[i]? =some oi->∀e∈oi.after,Region.binds .any e=true->e.on<i):
  ∀(l:List Oper) (acc:List Nat),(∀ j,l[j]? =ops[acc.length+j]?)->Truth ops acc->Truth ops (waits l acc)
 |[],acc,_,h=>h
 |o::r,acc,hl,h=>by
  unfold waits;have ho:ops[acc.length]? =some o:=by simpa using(hl 0).symm
  refine waits_truth hback r _ (fun j=>by have:=hl (j+1);simpa[Nat.add_assoc,Nat.add_comm 1 j]using this) ?_;intro i t hi hb;rw[List.length_append,List.length_singleton]at hi;rcases Nat.lt_or_ge i acc.length with h1|h1
  ·have e1:∀x,x<acc.length->(acc++[o.after.toList.foldl (fun s e=>if Region.binds .any e then s ||| 2 ^ e.on ||| acc.getD e.on 0 else s) 0]).getD x 0=acc.getD x 0:=fun x hx=>by
    simp[List.getD_eq_getElem?_getD,List.getElem?_append_left hx]
   rw[e1 i h1]at hb;obtain⟨oi,hoi,e,he,hbe,hx⟩:=h i t h1 hb;exact⟨oi,hoi,e,he,hbe,hx.imp id fun hx=>⟨hx.1,by rw[e1 _ (by omega)];exact hx.2⟩⟩
  ·obtain rfl:i=acc.length:=by omega
   have e0:(acc++[o.after.toList.foldl (fun s e=>if Region.binds .any e then s ||| 2 ^ e.on ||| acc.getD e.on 0 else s) 0]).getD acc.length 0=o.after.toList.foldl (fun s e=>if Region.binds .any e then s ||| 2 ^ e.on ||| acc.getD e.on 0 else s) 0:=by
    simp[List.getD_eq_getElem?_getD]
   rw[e0]at hb;rcases foldl_or acc t _ _ hb with h2|⟨e,he,hbe,hx⟩
   ·simp at h2
   ·have he':e∈o.after:=by simpa using he
    have hlt:=hback _ _ ho e he' hbe;refine⟨o,ho,e,he',hbe,hx.imp id fun hx=>⟨hlt,?_⟩⟩;have e1:(acc++[o.after.toList.foldl (fun s e=>if Region.binds .any e then s ||| 2 ^ e.on ||| acc.getD e.on 0 else s) 0]).getD e.on 0=acc.getD e.on 0:=by
     simp[List.getD_eq_getElem?_getD,List.getElem?_append_left hlt]
    rw[e1];exact hx
theorem Truth.listed{acc:List Nat}(h:Truth ops acc){listed:Array Bool}(hcl:Closed ops listed):∀(i:Nat) (oi:Oper) (t:Nat),i<acc.length->ops[i]? =some oi->
  (∀ e∈oi.after,Region.binds .any e=true->listed.getD e.on false=true)->(acc.getD i 0).testBit t=true->listed.getD t false=true:=by
 intro i
 induction i using Nat.strongRecOn with
 |_ i ih=>
  intro oi t hi hoi hall hb;obtain⟨oi',hoi',e,he,hbe,hx⟩:=h i t hi hb;have:oi'=oi:=Option.some.inj (hoi'.symm.trans hoi);subst this;rcases hx with rfl|⟨hlt,hx⟩
  ·exact hall e he hbe
  ·have hon:=hall e he hbe
   have hsz:e.on<ops.size:=by have:=(Array.getElem?_eq_some_iff.1 hoi).1;omega
   have e1:ops[e.on]? =some ops[e.on]:=Array.getElem?_eq_getElem hsz;exact ih e.on hlt _ t (by omega) e1 (hcl e.on _ e1 hon) hx
def OnlyG(l:List Oper)(K:Act->World->Prop):Exit->Act->World->Prop
 | .normal,a,w=>(l.all fun o=>goodVals a.eval o.op|| !Region.wanted o (yielded l.toArray a.tmps))=true/\K a w
 |_,_,_=>False
theorem OnlyG.intro{l:List Oper}{K:Act->World->Prop}{a:Act}{w:World}(h:(l.all fun o=>goodVals a.eval o.op|| !Region.wanted o (yielded l.toArray a.tmps))=true)(hK:K a w):OnlyG l K .normal a w:=⟨h,hK⟩
theorem OnlyG.lets{l:List Oper}{K:Act->World->Prop}:¬LetsOut (OnlyG l K):=fun⟨_,_,h⟩=>h
theorem wp_strict{o:Oper}{a:Act}{w:World}{next:Act->World->Prop}{l:List Oper}(h:o.wp P a w next (OnlyG l K)):o.wp P a w next (Only fun _ _=>False):=by
 unfold Oper.wp at *;generalize(execOp a.eval o).run P w=r at *;cases r with
 |ok n w'=>
  cases n <;> simp only[Oper.upon]at h ⊢
  case enter f args=>
   refine Calls.mono h fun e w'' he=>?_
   cases e with
   |returned v=>exact he
   |panicked c=>exact he
   |outgrown=>exact(OnlyG.lets he).elim
  all_goals exact h
 |halt x w'=>
  cases x <;> simp only[Oper.upon]at h ⊢
  case panic v=>exact h
theorem good_default{ρ:Operand->Value}{op:Op}(h:asksVals op=false):goodVals ρ op=true:=by
 cases op <;> simp[asksVals]at h <;> rfl
theorem list_walk{l0:List Oper}(h0:ops=l0.toArray):∀(l:List Oper) (p:Nat),(∀ j,l[j]? =ops[p+j]?)->
  (∀ (j q:Nat) (o o':Oper),l[j]? =some o->l[q]? =some o'->j<=q->asksVals o.op=true->∀d,o'.dst=some d->d∉o.looksAt ops)->
  ∀(a:Act) (w:World),wpList P ops (OnlyG l0 K) l a w->
  walkG P ops K (List.range' p l.length) a w/\∃a' w',(l0.all fun o=>goodVals a'.eval o.op|| !Region.wanted o (yielded l0.toArray a'.tmps))=true/\K a' w'/\
   ∀s,(∀ o∈l,o.dst≠some s)->a'.tmps[s]? =a.tmps[s]?
 |[],p,_,_,a,w,h=>⟨h.2,a,w,h.1,h.2,fun _ _=>rfl⟩
 |o::r,p,hl,hst,a,w,h=>by
  have ho:ops[p]? =some o:=by simpa using(hl 0).symm
  have hl':∀j,r[j]? =ops[p+1+j]? :=fun j=>by have:=hl (j+1);simpa[Nat.add_assoc,Nat.add_comm 1 j]using this
  have hst':∀(j q:Nat) (o o':Oper),r[j]? =some o->r[q]? =some o'->j<=q->asksVals o.op=true->∀d,o'.dst=some d->d∉o.looksAt ops:=fun j q o o' h1 h2 h3=>hst (j+1) (q+1) o o' (by simpa using h1) (by simpa using h2) (by omega)
  have ih:=list_walk h0 r (p+1) hl' hst';rw[List.length_cons,List.range'_succ];unfold wpList at h;have fin:∀(a1:Act) (v:Value),a1.tmps=(a.put o.dst v).tmps->(∃ a' w',(l0.all fun o=>goodVals a'.eval o.op|| !Region.wanted o (yielded l0.toArray a'.tmps))=true/\K a' w'/\∀s,(∀ o∈r,o.dst≠some s)->a'.tmps[s]? =a1.tmps[s]?)->
    GoodAt ops o a/\∃a' w',(l0.all fun o=>goodVals a'.eval o.op|| !Region.wanted o (yielded l0.toArray a'.tmps))=true/\K a' w'/\∀s,(∀ o'∈o::r,o'.dst≠some s)->a'.tmps[s]? =a.tmps[s]? :=by
   rintro a1 v htm ⟨a',w',hall,hK,hs⟩;have keep:∀s,(∀ o'∈o::r,o'.dst≠some s)->a'.tmps[s]? =a.tmps[s]? :=fun s hn=>by
    rw[hs s fun o' ho'=>hn o' (by simp[ho']),htm];have:=hn o (by simp);cases hd:o.dst with
    |none=>rfl
    |some d=>
     have hne:d≠s:=fun e=>this (by rw[hd,e])
     simp[Act.put,Array.getElem?_setIfInBounds_ne hne]
   refine⟨fun hw=>?_,a',w',hall,hK,keep⟩;cases hask:asksVals o.op with
   |false=>exact good_default hask
   |true=>
    have hlook:∀d,d∈o.looksAt ops->a'.tmps[d]? =a.tmps[d]? :=fun d hd=>keep d fun o' ho' he=>by
     obtain⟨q,hq,hq'⟩:=List.getElem_of_mem ho';exact hst 0 q o o' rfl (by rw[List.getElem?_eq_getElem hq,hq']) (Nat.zero_le _) hask d he hd
    have hev:∀x∈o.op.operands,a'.eval x=a.eval x:=fun x hx=>by
     cases x with
     |tmp d=>
      have:d∈o.looksAt ops:=List.mem_append_left _ (List.mem_filterMap.2 ⟨.tmp d,by simpa using hx,rfl⟩);simp[Act.eval,Array.getD_eq_getD_getElem?,hlook d this]
     |_=>rfl
    have hwa:Region.wanted o (yielded ops a'.tmps)=Region.wanted o (yielded ops a.tmps):=by
     unfold Region.wanted;cases hg:o.guard with
     |none=>rfl
     |some gw=>
      obtain⟨g,want⟩:=gw;have hy:yielded ops a'.tmps g=yielded ops a.tmps g:=by
       unfold yielded;cases ht:(ops[g]?).bind (·.dst)with
       |none=>rfl
       |some d=>
        have:d∈o.looksAt ops:=by simp[Oper.looksAt,hg,ht]
        simp[hlook d this]
      simp only[hy]
    have hmem:o∈l0:=by
     have:=Array.mem_of_getElem? ho;rw[h0]at this;simpa using this
    have h9:=List.all_eq_true.1 hall o hmem;rw[<- h0,hwa,hw,good_congr o.op hev]at h9;simpa using h9
  by_cases hw:Region.wanted o (yielded ops a.tmps)=true
  ·rw[if_pos hw]at h
   rcases h with h|⟨_,hlets⟩
   case inr=>exact(OnlyG.lets hlets).elim
   have h1:=wp_strict h;have h2:=Oper.wp_mono (fun a1 w1 hr=>ih a1 w1 hr) h1;obtain⟨a1,w1,v,h3,htm⟩:=wp_out h2;obtain⟨hg,hfin⟩:=fin a1 v htm h3.2;refine⟨?_,hfin⟩;show stepG P ops p _ a w;unfold stepG;simp only[ho,hw,if_true];exact⟨hg hw,Oper.wp_mono (fun a1 w1 hr=>hr.1) h2⟩
  ·rw[if_neg hw]at h
   have h2:=ih _ _ h;obtain⟨hg,hfin⟩:=fin (a.put o.dst undef) undef rfl h2.2;refine⟨?_,hfin⟩;show stepG P ops p _ a w;unfold stepG;simp only[ho,hw,if_false,Bool.false_eq_true];exact h2.1
def lexB(ops:Array Oper):Bool:=
 Region.noSelect ops&&(List.range ops.size).all fun i=>match ops[i]? with
  |none=>true
  |some oi=>
   (oi.after.toList.all fun e=> !Region.binds .any e||decide (e.on<i))&&
   (!asksVals oi.op||(List.range ops.size).all fun q=>decide (q<i)||match(ops[q]?).bind (·.dst)with
    |some d=> !(oi.looksAt ops).contains d
    |none=>true)&&
   (List.range i).all fun t=>((waits ops.toList []).getD i 0).testBit t||match ops[t]? with
    |none=>true
    |some ot=>ot.apart ops oi&&(kindOf ot.op==0||kindOf oi.op==0||(decide (kindOf ot.op<=1)&&decide (kindOf oi.op<=1)))
theorem walk_any(hsel:Region.noSelect ops=true)(hback:∀i oi,ops[i]? =some oi->∀e∈oi.after,Region.binds .any e=true->e.on<i){acc:List Nat}(hacc:acc.length=ops.size)(htr:Truth ops acc)
  (hpair:∀i t,i<ops.size->t<i->(acc.getD i 0).testBit t=true∨mayChange ops t i):
  ∀(fuel:Nat) (listed:Array Bool) (a:Act) (w:World),listed.size=ops.size->Closed ops listed->(rem ops listed).length<=fuel->
  walkG P ops K (rem ops listed) a w->wpAny P .any ops (Only K) fuel listed a w:=by
 have hrem:∀listed:Array Bool,listed.size=ops.size->Closed ops listed->Region.ready .any ops listed=[]->rem ops listed=[]:=fun listed hs hcl hr=>by
  cases hm:rem ops listed with
  |nil=>rfl
  |cons i l=>
   exfalso;have hi:i∈rem ops listed:=by rw[hm];simp
   obtain⟨hlt,hun⟩:=mem_rem.1 hi;obtain⟨τ,ρ,e1,_,e3⟩:=rem_split hs hi;have hτ:τ=[]:=by
    cases τ with
    |nil=>rfl
    |cons x τ=>
     rw[hm]at e1;have hx:i=x:=(List.cons.inj e1).1;have:=(e3 x (by simp)).1;omega
   have eo:ops[i]? =some ops[i]:=Array.getElem?_eq_getElem hlt;have:i∈Region.ready .any ops listed:=mem_ready.2 ⟨hun,_,eo,fun e he hb=>by
    have hlt':=hback i _ eo e he hb;by_cases hle:listed.getD e.on false=true
    ·exact hle
    ·exfalso
     have hmem:e.on∈rem ops listed:=mem_rem.2 ⟨by omega,by
      have:e.on<listed.size:=by omega
      simp[this]at hle ⊢;exact hle⟩
     rw[e1,hτ,List.nil_append]at hmem;have hlow:∀x∈rem ops listed,i<=x:=fun x hx=>by
      obtain⟨τ',ρ',f1,_,f3⟩:=rem_split hs hx;by_cases hτ':τ'=[]
      ·rw[hτ',List.nil_append,hm]at f1
       have:=(List.cons.inj f1).1;omega
      ·cases τ' with
       |nil=>exact absurd rfl hτ'
       |cons y τ'=>
        rw[hm]at f1;have:=(List.cons.inj f1).1;have:=(f3 y (by simp)).1;omega
     have:=hlow e.on (by rw[e1,hτ,List.nil_append];exact hmem);omega⟩
   rw[hr]at this;cases this
 intro fuel
 induction fuel with
 |zero=>
  intro listed a w hs hcl hlen h;have hnil:rem ops listed=[]:=List.eq_nil_of_length_eq_zero (by omega);refine⟨?_,by rw[hnil]at h;exact h⟩;cases hr:Region.ready .any ops listed with
  |nil=>rfl
  |cons i l=>
   have hi:i∈Region.ready .any ops listed:=by rw[hr];simp
   obtain⟨hun,o,ho,_⟩:=mem_ready.1 hi;have:i∈rem ops listed:=mem_rem.2 ⟨(Array.getElem?_eq_some_iff.1 ho).1,hun⟩;rw[hnil]at this;cases this
 |succ fuel ih=>
  intro listed a w hs hcl hlen h;refine⟨fun hr=>by rw[hrem listed hs hcl hr]at h;exact h,fun i hi=>?_⟩;obtain⟨hun,o,ho,hall⟩:=mem_ready.1 hi;have hlt:i<ops.size:=(Array.getElem?_eq_some_iff.1 ho).1;obtain⟨τ,ρ,e1,e2,e3⟩:=rem_split hs (mem_rem.2 ⟨hlt,hun⟩);rw[e1]at h;have hstep:=walkG_first hsel hlt τ ρ a w (fun t ht=>by
   obtain⟨h1,h2⟩:=e3 t ht;refine⟨by omega,(hpair i t hlt h1).resolve_left fun hb=>?_⟩;have:=htr.listed hcl i o t (by omega) ho hall hb;have h3:=(mem_rem.1 h2).2;have h4:t<listed.size:=by omega
   simp[h4]at this h3;rw[h3]at this;cases this) h
  refine wpOp_mono (fun a' w' h'=>ih _ a' w' (by simpa using hs) (hcl.set hi) ?_ (by rw[e2];exact h')) (stepG_wpOp hstep);rw[e2];rw[e1]at hlen;simp only[List.length_append,List.length_cons]at hlen ⊢;omega
theorem waits_length:∀(l:List Oper) (acc:List Nat),(waits l acc).length=acc.length+l.length
 |[],acc=>by simp[waits]
 |o::r,acc=>by unfold waits;rw[waits_length r];simp;omega
theorem wp_region_lex{id:Nat}{l:List Oper}{Q:Exit->Act->World->Prop}{a:Act}{w:World}(hm:P.follows .mixedOrders=true)(hB:lexB l.toArray=true)
  (h:wpList P l.toArray (OnlyG l (Q .normal)) l a w.drew):(Code.region id l.toArray true).wp P Q a w:=by
 refine Code.wp_mono (Q:=Only (Q .normal)) (fun e a w hq=>by cases e <;> first|exact hq|exact hq.elim) ?_;refine wp_region_any hm ?_;generalize hops:l.toArray=ops at *;unfold lexB at hB;simp only[Bool.and_eq_true,List.all_eq_true,List.mem_range]at hB;obtain⟨hsel,hB⟩:=hB;have hB':∀i oi,ops[i]? =some oi->_:=fun i oi hi=>by
  have:=hB i (Array.getElem?_eq_some_iff.1 hi).1;simp only[hi,Bool.and_eq_true,List.all_eq_true,List.mem_range]at this;exact this
 have hback:∀i oi,ops[i]? =some oi->∀e∈oi.after,Region.binds .any e=true->e.on<i:=fun i oi hi e he hb=>by
  have:=(hB' i oi hi).1.1 e (by simpa using he);simpa[hb]using this
 have hlen:l.length=ops.size:=by rw[<- hops];simp
 have hl:∀j,l[j]? =ops[0+j]? :=fun j=>by rw[<- hops];simp
 have htr:Truth ops (waits ops.toList []):=waits_truth hback ops.toList [] (fun j=>by simp) (fun i t hi=>by simp at hi);have hw:=(list_walk (P:=P) (K:=Q .normal) hops.symm l 0 hl (fun j q o o' h1 h2 hjq hask d hd hm=>by
  have hj:ops[j]? =some o:=by rw[<- h1,hl];simp
  have hq:ops[q]? =some o':=by rw[<- h2,hl];simp
  have h5:=(hB' j o hj).1.2;rw[hask]at h5;simp only[Bool.not_true,Bool.false_or,List.all_eq_true,List.mem_range]at h5;have h6:=h5 q (Array.getElem?_eq_some_iff.1 hq).1;simp only[hq,Option.bind_some,hd,Bool.or_eq_true,decide_eq_true_eq]at h6;rcases h6 with h6|h6
  ·omega
  ·simp[hm]at h6) a w.drew h).1
 have hr0:rem ops (Array.replicate ops.size false)=List.range' 0 l.length:=by
  unfold rem;rw[hlen, <-List.range_eq_range',List.filter_eq_self];intro i hi;have:=List.mem_range.1 hi;simp[this]
 refine walk_any hsel hback (acc:=waits ops.toList []) (by rw[waits_length];simp) htr (fun i t hi ht=>?_) ops.size _ a _ (by simp) (fun j oj _ hl=>by rw[getD_replicate0]at hl;cases hl) ?_ ?_
 ·have h1:=(hB' i _ (Array.getElem?_eq_getElem hi)).2 t ht
  simp only[Bool.or_eq_true]at h1;rcases h1 with h1|h1
  ·exact .inl h1
  ·refine .inr fun ot oi hot hoi=>?_
   have e1:oi=ops[i]:=Option.some.inj (hoi.symm.trans (Array.getElem?_eq_getElem hi));subst e1;simp only[hot,Bool.and_eq_true,Bool.or_eq_true,beq_iff_eq,decide_eq_true_eq]at h1;obtain⟨hap,hk⟩:=h1;refine⟨hap,?_⟩;rcases hk with(hk|hk)|hk
   ·exact .inl hk
   ·exact .inr (.inl hk)
   ·exact .inr (.inr hk)
 ·rw[hr0];simp[hlen]
 ·rw[hr0];exact hw
end
end
section
open Go Go.RowKit
theorem ret_int{k:IntKind}{a b:Int}(h:a=b):Ending.returned (.int k a)=.returned (.int k b):=by rw[h]
theorem ret_bool{a b:Bool}(h:a=b):Ending.returned (.bool a)=.returned (.bool b):=by rw[h]
theorem below_drewN{B:Nat}{a w:World}(h:Below B a w)(n:Nat):Below B a (w.drewN n):=
 h.trans ⟨rfl,rfl,rfl,lr,fun _ _=>rfl⟩
theorem below_alloc{w w':World}{o:Obj}(h:Below (w.alloc o).heap.size (w.alloc o) w'):Below w.heap.size w w':=
 (br.alloc lr o).trans (h.mono (by simp))
theorem below_later{w w1 w2:World}{B:Nat}(h:Below B w w1)(hB:B<=w1.heap.size)(h2:Below w1.heap.size w1 w2):Below B w w2:=h.trans (h2.mono hB)
theorem heap_new(w:World)(o:Obj)(n:Nat)(hn:w.heap.size=n):(w.alloc o).heap[n]? =some o:=by
 subst hn;exact heap_alloc_new w o
theorem cells_new(w:World)(cs:List Value)(t:TypeId)(n:Nat)(hn:w.heap.size=n):∀j u,cs[j]? =some u->(w.alloc (.cells cs.toArray t)).cell? ((⟨n,0,none⟩:Addr).add j)=some u:=
 fun j u hu=>World.news_of_block (cs:=cs.toArray) (t:=t) (fr:=(0,0)) (heap_new w _ n hn) j u (by simpa using hu)
theorem cells_new_drew(w:World)(cs:List Value)(t:TypeId)(n:Nat)(hn:w.heap.size=n):∀j u,cs[j]? =some u->(w.alloc (.cells cs.toArray t)).drew.cell? ((⟨n,0,none⟩:Addr).add j)=some u:=
 cells_new w cs t n hn
theorem cell_kept{w w':World}{cs:Array Value}{t:TypeId}(h:Below (w.alloc (.cells cs t)).heap.size (w.alloc (.cells cs t)) w')(j:Nat)(v:Value)(hv:cs[j]? =some v):w'.cell? ⟨w.heap.size,j,none⟩=some v:=by
 rw[h.cell (p:=⟨w.heap.size,j,none⟩) (by simp),cell_of_row _ w.heap.size j cs t (0,0) (heap_new w _ _ rfl)];exact hv
theorem below_alloc'{a w w':World}{o:Obj}(h0:Below a.heap.size a w)(h:Below (w.alloc o).heap.size (w.alloc o) w'):Below a.heap.size a w':=
 (h0.alloc h0.size o).trans (h.mono (by have:=h0.size;simp;omega))
theorem below_grown0{w w':World}(h:w.grownBy w' none):Below w.heap.size w w':=br.grown h lr (fun k hk=>by cases hk)
theorem below_append{w a w1:World}{B:Nat}{e:TypeId}{size n:Nat}{v:Value}{xs:List Value}(h:Below B w a)(hown:a.ownsRow B e size v n xs)(hB:B<=a.heap.size)(hg:a.grownBy w1 v.ownBlock):Below B w w1:=
 h.grown hg hB fun k hk=>(hown.lt k hk).1
theorem own_form{w:World}{base:Nat}{e:TypeId}{size:Nat}{v:Value}{n:Nat}{xs:List Value}(h:w.ownsRow base e size v n xs):
  ∃ao c,v=.slice ao n c/\n<=c/\(0<n->∃g,ao=some ⟨g,0,none⟩/\base<=g/\g<w.heap.size/\∀j u,xs[j]? =some u->w.cell? ⟨g,j,none⟩=some u):=by
 rcases h.2 with⟨rfl,rfl⟩|⟨g,cap,cur,hv,hb,hg,hn,_⟩
 ·exact⟨none,0,rfl,lr,fun h=>absurd h (by omega)⟩
 ·refine⟨some ⟨g,0,none⟩,cap,hv,hn,fun _=>⟨g,rfl,hb,?_,fun j u hu=>?_⟩⟩
  ·rcases Nat.lt_or_ge g w.heap.size with hlt|hge
   ·exact hlt
   ·rw[Array.getElem?_eq_none hge]at hg;cases hg
  ·have:=h.cells (g:=g) (by rw[hv];rfl) j u hu
   have hadd:(⟨g,0,none⟩:Addr).add j=⟨g,j,none⟩:=by unfold Addr.add;split <;> simp_all
   rwa[hadd]at this
def IntsAtK(κ:IntKind)(w:World)(B:Nat)(ao:Option Addr)(n:Nat)(z:Nat->Int):Prop:=
 0<n->∃b off,ao=some ⟨b,off,none⟩/\b<B/\∀i,i<n->w.cell? ⟨b,off+i,none⟩=some (.int κ (z i))
theorem IntsAtK.below{κ:IntKind}{w w':World}{B n:Nat}{ao:Option Addr}{z:Nat->Int}(h:IntsAtK κ w B ao n z){C:Nat}(hb:Below C w w')(hC:B<=C):IntsAtK κ w' B ao n z:=by
 intro h0;obtain⟨b,off,e,hlt,hc⟩:=h h0;exact⟨b,off,e,hlt,fun i hi=>by rw[hb.cell (p:=⟨b,_,none⟩) (show b<C by omega)];exact hc i hi⟩
theorem i64_and_mask(z:Int)(p:Nat)(hp:p<=62)(m:Int)(hm:m=2 ^ p-1):bits .and .i64 z m=z%2 ^ p:=by
 subst hm;have hpp:(2:Nat) ^ p<=2 ^ 62:=Nat.pow_le_pow_right (by omega) hp;have hpos:0<(2:Nat) ^ p:=Nat.pow_pos (by omega);have hcast:((2:Int) ^ p-1)=((2 ^ p-1:Nat):Int):=by
  rw[Int.natCast_sub (by omega)];simp
 have hd:(2:Int) ^ p ∣ 2 ^ 64:=by
  refine⟨2 ^ (64-p),?_⟩;rw[<- Int.pow_add];congr 1;omega
 unfold bits;simp only[];have h1:(BitVec.ofInt 64 z &&& BitVec.ofInt 64 (2 ^ p-1)).toNat=(BitVec.ofInt 64 z).toNat%2 ^ p:=by
  rw[hcast,BitVec.ofInt_natCast,BitVec.toNat_and,BitVec.toNat_ofNat,Nat.mod_eq_of_lt (a:=2 ^ p-1) (by omega),Nat.and_two_pow_sub_one_eq_mod]
 show IntKind.i64.wrap ((BitVec.ofInt 64 z &&& BitVec.ofInt 64 (2 ^ p-1)).toNat:Int)=_;rw[h1,BitVec.toNat_ofInt];have h2:(((z%((2 ^ 64:Nat):Int)).toNat%2 ^ p:Nat):Int)=z%2 ^ p:=by
  rw[Int.natCast_emod,Int.toNat_of_nonneg (Int.emod_nonneg _ (by decide))];have:(((2:Nat) ^ p:Nat):Int)=(2:Int) ^ p:=by simp
  rw[this];exact Int.emod_emod_of_dvd z (by simpa using hd)
 rw[h2];have h3:0<=z%(2:Int) ^ p:=Int.emod_nonneg _ (by have:(0:Int)<2 ^ p:=Int.pow_pos (by omega);omega);have h4:z%(2:Int) ^ p<2 ^ p:=Int.emod_lt_of_pos _ (Int.pow_pos (by omega));have h5:(2:Int) ^ p<=4611686018427387904:=by
  have:(((2:Nat) ^ p:Nat):Int)<=((2 ^ 62:Nat):Int):=by exact_mod_cast hpp
  simpa using this
 exact IntWalk.i64_in _ (by omega)
end
section
open Go.RowKit Go.Lib
def Turn(S:Nat->Prop)(w w':World):Prop:=w'.os=w.os/\w'.tape=w.tape/\w'.output=w.output/\w.heap.size<=w'.heap.size/\∀k,k<w.heap.size->¬S k->w'.heap[k]? =w.heap[k]?
theorem Turn.refl(S:Nat->Prop)(w:World):Turn S w w:=⟨rfl,rfl,rfl,lr,fun _ _ _=>rfl⟩
theorem Turn.of_below{S:Nat->Prop}{w w':World}(h:Below w.heap.size w w'):Turn S w w':=⟨h.os,h.tape,h.output,h.size,fun k hk _=>h.block k hk⟩
theorem Turn.trans{S T:Nat->Prop}{w w1 w2:World}(h:Turn S w w1)(h2:Turn T w1 w2)(hT:∀k,k<w.heap.size->T k->S k):Turn S w w2:=
 ⟨h2.1.trans h.1,h2.2.1.trans h.2.1,h2.2.2.1.trans h.2.2.1,Nat.le_trans h.2.2.2.1 h2.2.2.2.1,fun k hk hs=>(h2.2.2.2.2 k (Nat.lt_of_lt_of_le hk h.2.2.2.1) (fun ht=>hs (hT k hk ht))).trans (h.2.2.2.2 k hk hs)⟩
theorem Turn.below{S:Nat->Prop}{w w':World}{B:Nat}(h:Turn S w w')(hB:B<=w.heap.size)(hS:∀k,k<B->¬S k):Below B w w':=⟨h.1,h.2.1,h.2.2.1,h.2.2.2.1,fun k hk=>h.2.2.2.2 k (Nat.lt_of_lt_of_le hk hB) (hS k hk)⟩
theorem Turn.drew{S:Nat->Prop}{w w':World}(h:Turn S w w'):Turn S w w'.drew:=⟨h.1,h.2.1,h.2.2.1,h.2.2.2.1,h.2.2.2.2⟩
theorem Turn.setCell{S:Nat->Prop}{w w':World}(h:Turn S w w'){a:Addr}(ha:S a.block)(u:Value):Turn S w (w'.setCell a u):=
 ⟨h.1,h.2.1,h.2.2.1,by simpa using h.2.2.2.1,fun k hk hs=>(Below.heap_setCell _ _ _ _ (fun e=>hs (by rw[e];exact ha))).trans (h.2.2.2.2 k hk hs)⟩
theorem Turn.cell{S:Nat->Prop}{w w':World}(h:Turn S w w'){p:Addr}(hp:p.block<w.heap.size)(hs:¬S p.block):w'.cell? p=w.cell? p:=World.cell?_of_block (h.2.2.2.2 _ hp hs)
theorem below_dn(w:World)(n:Nat):Below w.heap.size w (w.drewN n):=⟨rfl,rfl,rfl,lr,fun _ _=>rfl⟩
theorem own_later{w w':World}{base n size:Nat}{e:TypeId}{v:Value}{xs:List Value}(h:w.ownsRow base e size v n xs)(hb:Below w.heap.size w w'):w'.ownsRow base e size v n xs:=by
 refine⟨h.1,?_⟩;rcases h.2 with h1|⟨g,cap,cur,hv,hbg,hh,hx⟩
 ·exact .inl h1
 ·exact .inr ⟨g,cap,cur,hv,hbg,(hb.block g (Array.getElem?_eq_some_iff.1 hh).1).trans hh,hx⟩
theorem own_turn{S:Nat->Prop}{w w':World}{base n c size:Nat}{e:TypeId}{vo:Option Addr}{xs:List Value}(h:w.ownsRow base e size (.slice vo n c) n xs)(ht:Turn S w w')(hs:∀g o s,vo=some ⟨g,o,s⟩->¬S g):w'.ownsRow base e size (.slice vo n c) n xs:=by
 refine⟨h.1,?_⟩;rcases h.2 with h1|⟨g,cap,cur,hv,hbg,hh,hx⟩
 ·exact .inl h1
 ·exact .inr ⟨g,cap,cur,hv,hbg,(ht.2.2.2.2 g (Array.getElem?_eq_some_iff.1 hh).1 (hs g 0 none (by cases hv;rfl))).trans hh,hx⟩
theorem own_set{w:World}{base n cap size g:Nat}{e:TypeId}{xs:List Value}(h:w.ownsRow base e size (.slice (some ⟨g,0,none⟩) n cap) n xs)(j:Nat)(u:Value):
  (w.setCell ⟨g,j,none⟩ u).ownsRow base e size (.slice (some ⟨g,0,none⟩) n cap) n (xs.set j u):=by
 rcases h.2 with⟨h0,_⟩|⟨g',cap',cur,hv,hb,hh,h1,h2,h3,h4⟩
 ·cases h0
 ·cases hv
  refine⟨by simpa using h.1,.inr ⟨g,cap,cur.setIfInBounds j u,rfl,hb,?_,h1,h2,by simpa using h3,?_⟩⟩
  ·rw[Sort.setCell_eq]
   simp[Sort.mapBlock,Array.getElem?_modify,hh,Sort.onCells]
  ·rw[Array.toList_setIfInBounds,List.take_set,h4]
theorem own_drew{w:World}{base n size:Nat}{e:TypeId}{v:Value}{xs:List Value}(h:w.ownsRow base e size v n xs):w.drew.ownsRow base e size v n xs:=h
theorem own_block{w:World}{base g n cap size:Nat}{e:TypeId}{xs:List Value}(h:w.ownsRow base e size (.slice (some ⟨g,0,none⟩) n cap) n xs):
  ∃cur:Array Value,w.heap[g]? =some (.cells cur e (0,0))/\base<=g/\n<=cap/\cap<=maxLen/\cur.size=cap*size/\cur.toList.take (n*size)=xs:=by
 rcases h.2 with⟨hv,_⟩|⟨g',cap',cur,hv,hbg,hh,hnc,hcm,hcs,htake⟩
 ·simp only[Value.slice.injEq]at hv;cases hv.1
 ·simp only[Value.slice.injEq,Option.some.injEq,Addr.mk.injEq]at hv
  obtain⟨⟨rfl,_⟩,_,rfl⟩:=hv;exact⟨cur,hh,hbg,hnc,hcm,hcs,htake⟩
theorem own_take{w:World}{base g n m cap size:Nat}{e:TypeId}{xs:List Value}(h:w.ownsRow base e size (.slice (some ⟨g,0,none⟩) n cap) n xs)(hm:m<=n):
  w.ownsRow base e size (.slice (some ⟨g,0,none⟩) m cap) m (xs.take (m*size)):=by
 obtain⟨cur,hh,hbg,hnc,hcm,hcs,htake⟩:=own_block h;have hms:m*size<=n*size:=Nat.mul_le_mul_right size hm;refine⟨by rw[List.length_take,h.1];omega,.inr ⟨g,cap,cur,rfl,hbg,hh,by omega,hcm,hcs,?_⟩⟩;rw[<- htake,List.take_take,Nat.min_eq_left hms]
theorem own_lt{w:World}{base n c size:Nat}{e:TypeId}{vo:Option Addr}{xs:List Value}(h:w.ownsRow base e size (.slice vo n c) n xs):∀g o s,vo=some ⟨g,o,s⟩->base<=g/\g<w.heap.size:=fun g o s e=>by
 rcases h.2 with⟨hv,_⟩|⟨g',cap,cur,hv,hbg,hh,_⟩
 ·simp only[Value.slice.injEq]at hv;rw[hv.1]at e;cases e
 ·simp only[Value.slice.injEq]at hv;rw[hv.1]at e;cases e;exact⟨hbg,(Array.getElem?_eq_some_iff.1 hh).1⟩
theorem own_base{w:World}{base b2 n size:Nat}{e:TypeId}{v:Value}{xs:List Value}(h:w.ownsRow base e size v n xs)(hb:b2<=base):w.ownsRow b2 e size v n xs:=
 ⟨h.1,h.2.imp (fun h=>h) fun⟨g,cap,cur,hv,hbg,r⟩=>⟨g,cap,cur,hv,by omega,r⟩⟩
theorem wf_i64{x:Int}(h0: -9223372036854775808<=x)(h1:x<=9223372036854775807):(Lit.int .i64 x).wf=true:=by
 unfold Lit.wf;rw[Bool.and_eq_true,decide_eq_true_eq,decide_eq_true_eq];exact⟨h0,h1⟩
theorem wrap_in{x:Int}(h1: -9223372036854775808<=x)(h2:x<=9223372036854775807):IntKind.i64.wrap x=x:=IntWalk.i64_in _ (by omega)
end
section
open Go.RowKit Go.Lib Go.Sort
theorem info_u:(Tryz.prog.info? 35).map (fun i=>(i.zero,i.size,i.bytes))=some (some (.int .u64 0),1,8):=by kernel_rfl
def uV(l:List Int):List Value:=l.map (Value.int .u64)
theorem uV_len(l:List Int):(uV l).length=l.length:=by simp[uV]
theorem uV_cell(l:List Int):∀u∈uV l,u.oneCell'=true:=fun u hu=>by
 obtain⟨x,_,rfl⟩:=List.mem_map.1 hu;rfl
theorem uV_get(l:List Int)(j:Nat)(h:j<l.length):(uV l)[j]? =some (.int .u64 (l.getD j 0)):=by simp[uV,List.getD_eq_getElem?_getD,h]
def WordsAt(w:World)(B:Nat)(ao:Option Addr)(l:List Int):Prop:=
 0<l.length->∃b off,ao=some ⟨b,off,none⟩/\b<B/\∀i,i<l.length->w.cell? ⟨b,off+i,none⟩=some (.int .u64 (l.getD i 0))
theorem WordsAt.below{w w':World}{B:Nat}{ao:Option Addr}{l:List Int}(h:WordsAt w B ao l){C:Nat}(hb:Below C w w')(hC:B<=C):WordsAt w' B ao l:=fun h0=>by
 obtain⟨b,off,e,hlt,hc⟩:=h h0;exact⟨b,off,e,hlt,fun i hi=>by rw[hb.cell (p:=⟨b,_,none⟩) (show b<C by omega)];exact hc i hi⟩
theorem WordsAt.wider{w:World}{B C:Nat}{ao:Option Addr}{l:List Int}(h:WordsAt w B ao l)(hC:B<=C):WordsAt w C ao l:=fun h0=>by
 obtain⟨b,off,e,hlt,hc⟩:=h h0;exact⟨b,off,e,by omega,hc⟩
def srt(l:List Int):List Int:=l.mergeSort fun x y=>decide (x<=y)
def setF(l:List Int):List Int:=compactUpTo (srt l).toArray (srt l).length
theorem srt_length(l:List Int):(srt l).length=l.length:=List.length_mergeSort l
theorem cut_length(d:Array Int)(m:Nat):(compactUpTo d m).length<=m:=by
 induction m with
 |zero=>simp[compactUpTo]
 |succ m ih=>rw[compactUpTo_succ,List.length_append];split <;> simp <;> omega
theorem setF_nil:setF []=[]:=by simp[setF,srt,compactUpTo]
theorem below_growU{B:Nat}{w0 w:World}{os:Array Obj}(h:Below B w0 w)(hB:B<=w.heap.size):Below B w0 (grow w os):=
 ⟨h.os,h.tape,h.output,by have:=h.size;simp[grow];omega,fun k hk=>by rw[<- h.block k hk];exact heap_grow_old w os (show k<w.heap.size by omega)⟩
theorem holds_own{w:World}{base n c:Nat}{ao:Option Addr}{l:List Int}(hn:0<n)(h:w.ownsRow base 35 1 (.slice ao n c) n (uV l)):
  ∃g,ao=some ⟨g,0,none⟩/\base<=g/\g<w.heap.size/\n<=c/\Holds encU w g 0 l.toArray:=by
 obtain⟨ao',c',e,hnc,hh⟩:=own_form h;cases e;obtain⟨g,rfl,hb,hg,hc⟩:=hh hn;refine⟨g,rfl,hb,hg,hnc,fun j hj=>?_⟩;have hj':j<l.length:=by simpa using hj
 refine⟨?_,h.frozenAt _⟩;rw[hc (0+j) _ (by rw[Nat.zero_add];exact uV_get l j hj')];congr 2;simp[List.getD_eq_getElem?_getD,hj',getElem!_pos]
theorem words_of_holds{w:World}{g:Nat}{l:List Int}(hg:g<w.heap.size)(h:Holds encU w g 0 l.toArray)(k:Nat)(hk:k<=l.length):WordsAt w w.heap.size (some ⟨g,0,none⟩) (l.take k):=fun _=>by
 refine⟨g,0,rfl,hg,fun i hi=>?_⟩;have hi':i<k/\i<l.length:=by simp at hi;omega
 rw[(h i (by simpa using hi'.2)).1];congr 2;simp[List.getD_eq_getElem?_getD,hi'.1,hi'.2,getElem!_pos]
def hasF(l:List Int)(x:Int):Bool:=l.contains x
theorem hasF_yes{l:List Int}{x:Int}{j:Nat}(hj:j<l.length)(h:l.getD j 0=x):hasF l x=true:=by
 unfold hasF;rw[List.contains_iff_mem];rw[<- h,List.getD_eq_getElem?_getD,List.getElem?_eq_getElem hj,Option.getD_some];exact List.getElem_mem _
theorem hasF_no{l:List Int}{x:Int}(h:∀j,j<l.length->l.getD j 0≠x):hasF l x=false:=by
 unfold hasF;rw[Bool.eq_false_iff,ne_eq,List.contains_iff_mem];intro hm;obtain⟨j,hj,e⟩:=List.getElem_of_mem hm;exact h j hj (by rw[List.getD_eq_getElem?_getD,List.getElem?_eq_getElem hj,Option.getD_some,e])
def Rising(l:List Int):Prop:=∀i j,i<=j->j<l.length->l.getD i 0<=l.getD j 0
theorem rhas_any(ao:Option Addr)(c:Nat)(l:List Int)(x:Int)(w:World)(B:Nat)(h:WordsAt w B ao l)(hn:l.length<=1000000000)(hr:Rising l):
  Calls Tryz.prog 13 #[.slice ao l.length c,.int .u64 x] w fun e w'=>e=.returned (.bool (hasF l x))/\w=w':=by
 obtain⟨n,hnn⟩:∃n,l.length=n:=⟨_,rfl⟩;have HN:=Hd hnn;have HW:=Hd h;have HR:=Hd hr;rw[hnn]at hn ⊢;clear hnn h hr
 go_enter Tryz.func13,Tryz.ntmps13
 go_wp2
 go_loop [5,6] (fun i j=>∃lo hi:Nat,lo<=hi/\hi<=n/\i=.int .i64 lo/\j=.int .i64 hi/\Hid ((∀ k,k<lo->l.getD k 0<x)/\∀k,hi<=k->k<n->x<=l.getD k 0)) (fun i j=>(intOf j).toNat-(intOf i).toNat)
 case atStart=>exact⟨0,n,Nat.zero_le _,lr,rfl,rfl,fun k hk=>by omega,fun k h1 h2=>by omega⟩
 case round=>
  obtain⟨lo,hi,h1,h2,rfl,rfl,HA⟩:=hrel;by_cases hlt:lo<hi
  ·obtain⟨b,off,rfl,hb,hc⟩:=HW.out (by rw[HN.out];omega)
   obtain⟨m,hm⟩:∃m,(lo+hi)/2=m:=⟨_,rfl⟩;have hm1:lo<=m:=by omega
   have hm2:m<hi:=by omega
   have hmI:((lo:Int)+(hi:Int))/2=(m:Int):=by omega
   have c0:=hc m (by rw[HN.out];omega);have HL1:Hid (l.getD m 0<x->∀k,k<m+1->l.getD k 0<x):=fun e k hk=>by
    have:=HR.out k m (by omega) (by rw[HN.out];omega);omega
   have HL2:Hid (¬ l.getD m 0<x->∀k,m<=k->k<n->x<=l.getD k 0):=fun e k h3 h4=>by
    have:=HR.out m k h3 (by rw[HN.out];exact h4);omega
   generalize l.getD m 0=y at c0 HL1 HL2;clear hc hm;by_cases hyx:y<x
   ·have HLL:=Hd (HL1.out hyx)
    clear HL1 HL2;go_wp2
    go_round
    case rel=>exact⟨m+1,hi,by omega,h2,by go_num,rfl,HLL.out,HA.out.2⟩
    case measure=>simp[intOf];omega
   ·have HLL:=Hd (HL2.out hyx)
    clear HL1 HL2;go_wp2
    go_round
    case rel=>exact⟨lo,m,by omega,by omega,rfl,by go_num,HA.out.1,HLL.out⟩
    case measure=>simp[intOf];omega
  ·obtain rfl:lo=hi:=by omega
   by_cases hln:lo<n
   ·obtain⟨b,off,rfl,hb,hc⟩:=HW.out (by rw[HN.out];omega)
    have c0:=hc lo (by rw[HN.out];exact hln);have HF:Hid ((l.getD lo 0==x)=hasF l x):=by
     show _=_;by_cases e:l.getD lo 0=x
     ·rw[hasF_yes (by rw[HN.out];exact hln) e];simpa using e
     ·rw[hasF_no fun j hj=>by
       rw[HN.out]at hj;by_cases hjl:j<lo
       ·have:=HA.out.1 j hjl;omega
       ·have h3:=HA.out.2 lo lr hln
        have h4:=HR.out lo j (by omega) (by rw[HN.out];exact hj);omega]
      simpa using e
    generalize l.getD lo 0=y at c0 HF;clear hc;have q0:decide ((lo:Int)<(n:Int))=true:=by simp;omega
    go_wp2;go_ret;exact⟨ret_bool HF.out,rfl⟩
   ·obtain rfl:lo=n:=by omega
    have HF:Hid (hasF l x=false):=hasF_no fun j hj=>by
     rw[HN.out]at hj;have:=HA.out.1 j hj;omega
    have q0:decide ((lo:Int)<(lo:Int))=false:=by simp
    go_wp2;go_ret;exact⟨ret_bool HF.out.symm,rfl⟩
def Up(l:List Int):Prop:=l.Pairwise (· < ·)
theorem getD_mem{l:List Int}{j:Nat}(h:j<l.length):l.getD j 0∈l:=by
 rw[List.getD_eq_getElem?_getD,List.getElem?_eq_getElem h,Option.getD_some];exact List.getElem_mem h
theorem hasF_iff(l:List Int)(x:Int):hasF l x=true↔x∈l:=by unfold hasF;exact List.contains_iff_mem
theorem srt_mem(l:List Int)(x:Int):x∈srt l↔x∈l:=List.mem_mergeSort
theorem srt_sorted(l:List Int):(srt l).Pairwise (· <= ·):=by
 have:=List.pairwise_mergeSort (le:=fun x y:Int=>decide (x<=y)) (fun a b c h1 h2=>by simp at *;omega) (fun a b=>by simp;omega) l;exact this.imp fun h=>by simpa using h
theorem cut_mem(d:Array Int)(x:Int):∀m,m<=d.size->(x∈compactUpTo d m↔∃j,j<m/\d[j]! =x)
 |0,_=>by simp[compactUpTo]
 |m+1,h=>by
  rw[compactUpTo_succ,List.mem_append,cut_mem d x m (by omega)];by_cases hk:0<m/\d[m]! =d[m-1]!
  ·rw[keeps_neg hk.1 hk.2]
   simp only[Bool.false_eq_true,if_false,List.not_mem_nil,or_false];constructor
   ·rintro⟨j,hj,e⟩;exact⟨j,by omega,e⟩
   ·rintro⟨j,hj,e⟩
    by_cases ej:j=m
    ·subst ej;exact⟨j-1,by omega,by rw[<- hk.2];exact e⟩
    ·exact⟨j,by omega,e⟩
  ·have hkk:keeps d m=true:=by
    by_cases h0:m=0
    ·exact keeps_lt_one d m (by omega)
    ·exact keeps_pos fun e=>hk ⟨by omega,e⟩
   rw[hkk];simp only[if_true,List.mem_singleton];constructor
   ·rintro(⟨j,hj,e⟩|e)
    ·exact⟨j,by omega,e⟩
    ·exact⟨m,by omega,e.symm⟩
   ·rintro⟨j,hj,e⟩
    by_cases ej:j=m
    ·subst ej;exact .inr e.symm
    ·exact .inl ⟨j,by omega,e⟩
theorem cut_up(d:Array Int)(hs:∀i j,i<=j->j<d.size->d[i]! <=d[j]!):∀m,m<=d.size->Up (compactUpTo d m)
 |0,_=>by simp[compactUpTo,Up]
 |m+1,h=>by
  rw[compactUpTo_succ];have ih:=cut_up d hs m (by omega);by_cases hk:0<m/\d[m]! =d[m-1]!
  ·rw[keeps_neg hk.1 hk.2];simpa using ih
  ·have hkk:keeps d m=true:=by
    by_cases h0:m=0
    ·exact keeps_lt_one d m (by omega)
    ·exact keeps_pos fun e=>hk ⟨by omega,e⟩
   rw[hkk];simp only[if_true];unfold Up at *;rw[List.pairwise_append];refine⟨ih,by simp,fun a ha b hb=>?_⟩;obtain rfl:b=d[m]! :=by simpa using hb
   obtain⟨j,hj,e⟩:=(cut_mem d a m (by omega)).1 ha;have h1:=hs j (m-1) (by omega) (by omega);have h2:=hs (m-1) m (by omega) (by omega);have h3:d[m]! ≠d[m-1]! :=fun e=>hk ⟨by omega,e⟩
   omega
theorem arr_get(l:List Int)(j:Nat)(h:j<l.length):l.toArray[j]! =l.getD j 0:=by simp[List.getD_eq_getElem?_getD,h,getElem!_pos]
theorem sorted_getD{l:List Int}(h:l.Pairwise (· <= ·)):∀i j,i<=j->j<l.length->l.getD i 0<=l.getD j 0:=fun i j hij hj=>by
 rw[List.getD_eq_getElem?_getD,List.getD_eq_getElem?_getD,List.getElem?_eq_getElem hj,List.getElem?_eq_getElem (by omega),Option.getD_some,Option.getD_some];by_cases e:i=j
 ·subst e;exact Int.le_refl _
 ·exact List.pairwise_iff_getElem.1 h i j (by omega) hj (by omega)
theorem setF_up(l:List Int):Up (setF l):=by
 unfold setF;refine cut_up _ (fun i j hij hj=>?_) _ (by simp);have hj':j<(srt l).length:=by simpa using hj
 rw[arr_get _ i (by omega),arr_get _ j hj'];exact sorted_getD (srt_sorted l) i j hij hj'
theorem setF_mem(l:List Int)(x:Int):x∈setF l↔x∈l:=by
 unfold setF;rw[cut_mem _ _ _ (by simp), <-srt_mem l x];constructor
 ·rintro⟨j,hj,rfl⟩;rw[arr_get _ j hj];exact getD_mem hj
 ·intro h
  obtain⟨j,hj,e⟩:=List.getElem_of_mem h;exact⟨j,hj,by rw[arr_get _ j hj,List.getD_eq_getElem?_getD,List.getElem?_eq_getElem hj,Option.getD_some,e]⟩
theorem Up.rising{l:List Int}(h:Up l):Rising l:=fun i j hij hj=>sorted_getD (h.imp fun h=>by omega) i j hij hj
theorem Up.ext:∀{l m:List Int},Up l->Up m->(∀ x,x∈l↔x∈m)->l=m
 |[],[],_,_,_=>rfl
 |[],b::m,_,_,h=>absurd ((h b).2 (by simp)) (by simp)
 |a::l,[],_,_,h=>absurd ((h a).1 (by simp)) (by simp)
 |a::l,b::m,h1,h2,h=>by
  unfold Up at *;rw[List.pairwise_cons]at h1 h2;have hab:a=b:=by
   have p1:=(h a).1 (by simp);have p2:=(h b).2 (by simp);rcases List.mem_cons.1 p1 with e|p1
   ·exact e
   ·rcases List.mem_cons.1 p2 with e|p2
    ·exact e.symm
    ·have:=h1.1 _ p2;have:=h2.1 _ p1;omega
  subst hab;congr 1;refine Up.ext h1.2 h2.2 fun x=>⟨fun hx=>?_,fun hx=>?_⟩
  ·rcases List.mem_cons.1 ((h x).1 (by simp[hx]))with e|p
   ·have:=h1.1 _ hx;omega
   ·exact p
  ·rcases List.mem_cons.1 ((h x).2 (by simp[hx]))with e|p
   ·have:=h2.1 _ hx;omega
   ·exact p
theorem setF_length(l:List Int):(setF l).length<=l.length:=by
 unfold setF;exact Nat.le_trans (cut_length _ _) (Nat.le_of_eq (srt_length l))
theorem filter_up{l:List Int}(h:Up l)(p:Int->Bool):Up (l.filter p):=h.filter p
theorem setF_up_eq{l:List Int}(h:Up l):setF l=l:=(setF_up l).ext h fun x=>setF_mem l x
theorem uV_snoc(l:List Int)(x:Int):uV (l++[x])=uV l++[.int .u64 x]:=by simp[uV]
theorem words_own{w:World}{base n c:Nat}{ao:Option Addr}{l:List Int}(hn:n=l.length)(h:w.ownsRow base 35 1 (.slice ao n c) n (uV l)):WordsAt w w.heap.size ao l:=fun h0=>by
 subst hn;obtain⟨ao',c',e,_,hh⟩:=own_form h;cases e;obtain⟨g,rfl,_,hg,hc⟩:=hh h0;exact⟨g,0,rfl,hg,fun i hi=>by rw[hc (0+i) _ (by rw[Nat.zero_add];exact uV_get l i hi)]⟩
theorem same_any(ao bo:Option Addr)(c d:Nat)(a b:List Int)(w:World)(B C:Nat)(ha:WordsAt w B ao a)(hb:WordsAt w C bo b)(hna:a.length<=1000000000):
  Calls Tryz.prog 10 #[.slice ao a.length c,.slice bo b.length d] w fun e w'=>e=.returned (.bool (decide (a=b)))/\Below w.heap.size w w':=by
 obtain⟨r,hr⟩:∃r:Bool,decide (a=b)=r:=⟨_,rfl⟩;rw[hr];by_cases hl:a.length=b.length
 ·obtain⟨n,hn⟩:∃n,a.length=n:=⟨_,rfl⟩
  rw[<- hl,hn];rw[hn]at hna;have HA:=Hd ha;have HB:=Hd hb;have HN:=Hd hn;have HL:Hid (b.length=n):=by show _=_;rw[<- hl,hn]
  have HR:=Hd hr;have q0:((n:Int) != (n:Int))=false:=by simp
  clear ha hb hl hn hr
  go_enter Tryz.func10,Tryz.ntmps10
  go_wp2
  go_loopw [5] (fun i wr=>∃k:Nat,k<=n/\i=.int .i64 k/\Hid (∀ j,j<k->a.getD j 0=b.getD j 0)/\Below w.heap.size w wr/\Hid (∀ x,wr.cell? x=w.cell? x)) (fun i _=>n-(intOf i).toNat)
  case atStart=>exact⟨0,Nat.zero_le _,rfl,fun j hj=>by omega,br,fun x=>rfl⟩
  case round=>
   obtain⟨k,hk,rfl,HE,hnx,HCA⟩:=hrel;by_cases hlt:k<n
   ·obtain⟨g,off,rfl,hg,hc⟩:=HA.out (by rw[HN.out];omega)
    obtain⟨g2,off2,rfl,hg2,hc2⟩:=HB.out (by rw[HL.out];omega);have c0:=(HCA.out _).trans (hc k (by rw[HN.out];exact hlt));have c1:=(HCA.out _).trans (hc2 k (by rw[HL.out];exact hlt));have hg':=World.block_lt_of_cell? wr _ c0;have hg2':=World.block_lt_of_cell? wr _ c1;have HNO:Hid (a.getD k 0≠b.getD k 0->r=false):=fun h=>by rw[<- HR.out];simp;intro e;exact h (by rw[e])
    have HYES:Hid (a.getD k 0=b.getD k 0->∀j,j<k+1->a.getD j 0=b.getD j 0):=fun h j hj=>by
     by_cases e:j=k
     ·rw[e];exact h
     ·exact HE.out j (by omega)
    generalize a.getD k 0=x at c0 HNO HYES;generalize b.getD k 0=y at c1 HNO HYES;clear hc hc2;dsimp only at hg' hg2';by_cases hxy:x=y
    ·have hq:(x != y)=false:=by simpa using hxy
     have HY:=Hd (HYES.out hxy);clear hxy HNO HYES;go_wp2
     go_quiet (fail)
     go_wp2
     go_roundw
     case rel=>exact⟨k+1,by omega,by go_num,HY.out,below_drewN hnx _,fun x=>HCA.out x⟩
     case measure=>simp[intOf];omega
    ·have hq:(x != y)=true:=by simpa using hxy
     have HY:=Hd (HNO.out hxy);clear hxy HNO HYES;go_wp2
     go_quiet (fail)
     go_wp2;go_ret;exact⟨ret_bool HY.out.symm,below_drewN hnx _⟩
   ·obtain rfl:k=n:=by omega
    have HT:Hid (r=true):=by
     show _=_;rw[<- HR.out];simp only[decide_eq_true_eq];refine List.ext_getElem (by rw[HN.out,HL.out]) fun i h1 h2=>?_
     have:=HE.out i (by rw[HN.out]at h1;exact h1)
     rwa[List.getD_eq_getElem?_getD,List.getD_eq_getElem?_getD,List.getElem?_eq_getElem h1,List.getElem?_eq_getElem h2,Option.getD_some,Option.getD_some]at this
    go_wp2;go_ret;exact⟨ret_bool HT.out.symm,hnx⟩
 ·have HF:Hid (r=false):=by show _=_;rw[<- hr];simp;intro e;exact hl (by rw[e])
  have q0:((a.length:Int) != (b.length:Int))=true:=by simp;omega
  clear hr ha hb
  go_enter Tryz.func10,Tryz.ntmps10
  go_wp2;go_ret;exact⟨ret_bool HF.out.symm,br⟩
theorem take_one{l:List Int}{k:Nat}(h:k<l.length):l.take (k+1)=l.take k++[l.getD k 0]:=by
 rw[List.take_succ_eq_append_getElem h,List.getD_eq_getElem?_getD,List.getElem?_eq_getElem h,Option.getD_some]
theorem setF_old{l:List Int}{k:Nat}(h:k<l.length)(hm:l.getD k 0∈setF (l.take k)):setF (l.take (k+1))=setF (l.take k):=by
 refine(setF_up _).ext (setF_up _) fun x=>?_
 rw[setF_mem,setF_mem,take_one h,List.mem_append,List.mem_singleton];rw[setF_mem]at hm;constructor
 ·rintro(h1|rfl)
  ·exact h1
  ·exact hm
 ·exact Or.inl
theorem setF_put{l s:List Int}{k lo:Nat}(h:k<l.length)(hs:setF (l.take k)=s)(h1:∀j,j<lo->s.getD j 0<l.getD k 0)(h2:∀j,lo<=j->j<s.length->l.getD k 0<s.getD j 0):
  setF (l.take (k+1))=s.take lo++l.getD k 0::s.drop lo:=by
 have hu:Up s:=by rw[<- hs];exact setF_up _
 refine(setF_up _).ext ?_ fun x=>?_
 ·refine List.pairwise_append.2 ⟨hu.take,List.pairwise_cons.2 ⟨fun y hy=>?_,hu.drop⟩,fun y hy z hz=>?_⟩
  ·obtain⟨j,hj,rfl⟩:=List.getElem_of_mem hy
   have hj':lo+j<s.length:=by simp at hj;omega
   have:=h2 (lo+j) (by omega) hj';rw[List.getElem_drop]
   rwa[List.getD_eq_getElem?_getD (l:=s),List.getElem?_eq_getElem hj',Option.getD_some]at this
  ·have hy2:y<l.getD k 0:=by
    obtain⟨j,hj,rfl⟩:=List.getElem_of_mem hy;have hj':j<lo/\j<s.length:=by simp at hj;omega
    have:=h1 j hj'.1;rw[List.getElem_take]
    rwa[List.getD_eq_getElem?_getD (l:=s),List.getElem?_eq_getElem hj'.2,Option.getD_some]at this
   rcases List.mem_cons.1 hz with rfl|hz
   ·exact hy2
   ·obtain⟨j,hj,rfl⟩:=List.getElem_of_mem hz
    have hj':lo+j<s.length:=by simp at hj;omega
    have:=h2 (lo+j) (by omega) hj';rw[List.getElem_drop];rw[List.getD_eq_getElem?_getD (l:=s),List.getElem?_eq_getElem hj',Option.getD_some]at this;omega
 ·rw[setF_mem,take_one h,List.mem_append,List.mem_singleton,List.mem_append,List.mem_cons, <-setF_mem (l.take k),hs]
  conv=>lhs;rw[<- List.take_append_drop lo s]
  rw[List.mem_append];constructor
  ·rintro((h|h)|h)
   ·exact .inl h
   ·exact .inr (.inr h)
   ·exact .inr (.inl h)
  ·rintro(h|h|h)
   ·exact .inl (.inl h)
   ·exact .inr h
   ·exact .inl (.inr h)
theorem own_put{w:World}{base g cap m lo:Nat}{s:List Int}{x:Int}{cur:List Value}(hb:base<=g)(hl:s.length=m)(hlo:lo<=m)(hm:m+1<=cap)(hc:cap<=maxLen)(hcur:cur.length=cap)(htk:cur.take (m+1)=uV s++[.int .u64 0])
  (h:w.heap[g]? =some (.cells (splice cur (lo+1) (uV (s.drop lo))).toArray 35 (0,0))):
  (w.setCell ⟨g,lo,none⟩ (.int .u64 x)).ownsRow base 35 1 (.slice (some ⟨g,0,none⟩) (m+1) cap) (m+1) (uV (s.take lo++x::s.drop lo)):=by
 have hsz:(splice cur (lo+1) (uV (s.drop lo))).length=cap:=by rw[length_splice _ _ _ (by rw[uV_len,List.length_drop];omega)];exact hcur
 have hh:(w.setCell ⟨g,lo,none⟩ (.int .u64 x)).heap[g]? =some (.cells ((splice cur (lo+1) (uV (s.drop lo))).toArray.setIfInBounds lo (.int .u64 x)) 35 (0,0)):=by
  rw[setCell_eq];simp[mapBlock,Array.getElem?_modify,h,onCells]
 refine⟨by rw[uV_len,List.length_append,List.length_cons,List.length_take,List.length_drop];omega,.inr ⟨g,cap,_,rfl,hb,hh,hm,hc,by simpa using hsz,?_⟩⟩;have hs0:cur.take lo=uV (s.take lo):=by
  have:(cur.take (m+1)).take lo=(uV s++[Value.int .u64 0]).take lo:=by rw[htk]
  rw[List.take_take,Nat.min_eq_left (by omega),List.take_append_of_le_length (by rw[uV_len];omega)]at this;rw[this];simp[uV,List.map_take]
 apply List.ext_getElem?;intro j;rw[Nat.mul_one];by_cases hj:j<m+1
 ·rw[List.getElem?_take_of_lt hj,Array.getElem?_toList,Array.getElem?_setIfInBounds]
  by_cases e:lo=j
  ·subst e
   rw[if_pos rfl,if_pos (by rw[List.size_toArray,hsz];omega)];simp[uV,hl,hlo]
  ·rw[if_neg e,List.getElem?_toArray]
   unfold splice;have huv:uV (s.take lo++x::s.drop lo)=uV (s.take lo)++ .int .u64 x::uV (s.drop lo):=by simp[uV]
   rw[huv];have h2:(uV (s.take lo)).length=lo:=by rw[uV_len,List.length_take];omega
   rcases Nat.lt_or_gt_of_ne e with h3|h3
   ·have hA:(cur.take (lo+1)).length=lo+1:=by rw[List.length_take];omega
    rw[List.getElem?_append_right (l₁:=cur.take (lo+1)) (by rw[hA];omega),hA,List.getElem?_append_right (l₁:=uV (s.take lo)) (by rw[h2];omega),h2,List.getElem?_append_left (by rw[uV_len,List.length_drop];omega)];obtain⟨i,hi⟩:∃i,j-lo=i+1:=⟨j-lo-1,by omega⟩;rw[hi,List.getElem?_cons_succ];congr 1;omega
   ·rw[List.getElem?_append_left (by rw[List.length_take];omega),List.getElem?_append_left (by omega),List.getElem?_take_of_lt (by omega), <-hs0,List.getElem?_take_of_lt h3]
 ·rw[List.getElem?_take_eq_none (by omega),List.getElem?_eq_none (by rw[uV_len,List.length_append,List.length_cons,List.length_take,List.length_drop];omega)]
theorem cell_heap{X w:World}(h:X.heap=w.heap)(a:Addr):X.cell? a=w.cell? a:=World.cell?_of_block (by rw[h])
theorem words_heap{X w:World}(h:X.heap=w.heap){B:Nat}{ao:Option Addr}{l:List Int}(hw:WordsAt w B ao l):WordsAt X B ao l:=fun h0=>by
 obtain⟨b,off,e,hlt,hc⟩:=hw h0;exact⟨b,off,e,hlt,fun i hi=>by rw[cell_heap h];exact hc i hi⟩
theorem own_heap{X w:World}(h:X.heap=w.heap){base n size:Nat}{e:TypeId}{v:Value}{xs:List Value}(ho:w.ownsRow base e size v n xs):X.ownsRow base e size v n xs:=by
 unfold World.ownsRow;rw[h];exact ho
end
section
open Go.RowKit Go.Lib
def AskU(g:Nat)(cb:Array Value)(p:Int->Bool)(w:World)(blk:Nat)(l:List Int):Prop:=
 ∀(W:World) (x:Int),Turn (fun k=>k=blk) w W->x∈l->Calls Tryz.prog g (#[.int .u64 x]++cb) W fun e w'=>e=.returned (.bool (p x))/\Below W.heap.size W w'
def firstF(p:Int->Bool)(l:List Int):Nat:=l.findIdx p
theorem first_at{p:Int->Bool}{l:List Int}{k:Nat}(hk:k<l.length)(h1:∀j,j<k->p (l.getD j 0)=false)(h2:p (l.getD k 0)=true):firstF p l=k:=by
 unfold firstF;rw[List.findIdx_eq hk];refine⟨by rw[List.getD_eq_getElem?_getD,List.getElem?_eq_getElem hk]at h2;exact h2,fun j hj=>?_⟩;have:=h1 j hj;rw[List.getD_eq_getElem?_getD,List.getElem?_eq_getElem (show j<l.length by omega)]at this;exact this
theorem first_none{p:Int->Bool}{l:List Int}(h1:∀j,j<l.length->p (l.getD j 0)=false):firstF p l=l.length/\l.filter (fun x=> !p x)=l:=by
 have h:∀x∈l,p x=false:=fun x hx=>by
  obtain⟨j,hj,rfl⟩:=List.mem_iff_getElem.1 hx;have:=h1 j hj
  rwa[List.getD_eq_getElem?_getD,List.getElem?_eq_getElem hj]at this
 refine⟨?_,List.filter_eq_self.2 fun x hx=>by rw[h x hx];rfl⟩;unfold firstF;exact List.findIdx_eq_length_of_false h
def idxN(p:Int->Bool)(l:List Int):Int:=if firstF p l<l.length then(firstF p l:Int)else -1
def DfI(p:Int->Bool)(l:List Int)(j i:Nat)(dk:List Int):Prop:=
 dk.length=l.length/\i<j/\(l.take j).filter (fun x=> !p x)=dk.take i/\∀t,j<=t->dk[t]? =l[t]?
theorem df_take{l:List Int}{j:Nat}(hj:j<l.length):l.take (j+1)=l.take j++[l.getD j 0]:=by
 rw[List.take_add_one,List.getElem?_eq_getElem hj,List.getD_eq_getElem?_getD,List.getElem?_eq_getElem hj];rfl
theorem df_start{p:Int->Bool}{l:List Int}{k:Nat}(hk:k<l.length)(h1:∀j,j<k->p (l.getD j 0)=false)(h2:p (l.getD k 0)=true):DfI p l (k+1) k l:=by
 refine⟨rfl,Nat.lt_succ_self _,?_,fun _ _=>rfl⟩;rw[df_take hk,List.filter_append,List.filter_cons_of_neg (by rw[h2];simp),List.filter_nil,List.append_nil];refine List.filter_eq_self.2 fun x hx=>?_
 obtain⟨t,ht,rfl⟩:=List.mem_iff_getElem.1 hx;have ht2:t<k:=by simp at ht;omega
 have:=h1 t ht2;rw[List.getD_eq_getElem?_getD,List.getElem?_eq_getElem (show t<l.length by omega)]at this;rw[List.getElem_take,show p l[t]=false from this];rfl
theorem df_keep{p:Int->Bool}{l dk:List Int}{j i:Nat}(h:DfI p l j i dk)(hj:j<l.length)(hp:p (l.getD j 0)=false):DfI p l (j+1) (i+1) (dk.set i (l.getD j 0)):=by
 obtain⟨h1,h2,h3,h4⟩:=h;refine⟨by simpa using h1,by omega,?_,fun t ht=>?_⟩
 ·rw[df_take hj,List.filter_append,h3,List.filter_cons_of_pos (by rw[hp];rfl),List.filter_nil,List.take_add_one]
  rw[List.take_set_of_le lr,List.getElem?_set_self (by omega)];rfl
 ·rw[List.getElem?_set_ne (by omega)];exact h4 t (by omega)
theorem df_skip{p:Int->Bool}{l dk:List Int}{j i:Nat}(h:DfI p l j i dk)(hj:j<l.length)(hp:p (l.getD j 0)=true):DfI p l (j+1) i dk:=by
 obtain⟨h1,h2,h3,h4⟩:=h;refine⟨h1,by omega,?_,fun t ht=>h4 t (by omega)⟩;rw[df_take hj,List.filter_append,h3,List.filter_cons_of_neg (by rw[hp];simp),List.filter_nil,List.append_nil]
theorem own_setCells{base n cap size g:Nat}{e:TypeId}:∀(vs:List Value) (o:Nat) (w:World) (xs:List Value),w.ownsRow base e size (.slice (some ⟨g,0,none⟩) n cap) n xs->∃ys,(w.setCells g o vs).ownsRow base e size (.slice (some ⟨g,0,none⟩) n cap) n ys/\ys.take o=xs.take o
 |[],_,_,xs,h=>⟨xs,h,rfl⟩
 |v::r,o,_,xs,h=>by
  obtain⟨ys,h1,h2⟩:=own_setCells r (o+1) _ _ (own_set h o v);refine⟨ys,h1,?_⟩;have:=congrArg (List.take o) h2;rw[List.take_take,List.take_take,Nat.min_eq_left (by omega),List.take_set_of_le lr]at this;exact this
theorem turn_setCells{g:Nat}:∀(vs:List Value) (o:Nat) (w0 w:World),Turn (fun k=>k=g) w0 w->Turn (fun k=>k=g) w0 (w.setCells g o vs)
 |[],_,_,_,h=>h
 |v::r,o,w0,_,h=>turn_setCells r (o+1) w0 _ (Turn.setCell (S:=fun k=>k=g) (a:=⟨g,o,none⟩) h rfl v)
theorem uV_set(l:List Int)(i:Nat)(x:Int):uV (l.set i x)=(uV l).set i (.int .u64 x):=by unfold uV;rw[List.map_set]
theorem uV_take(l:List Int)(i:Nat):uV (l.take i)=(uV l).take i:=by unfold uV;rw[List.map_take]
theorem own_cells{w:World}{base g n c:Nat}{l:List Int}(h:w.ownsRow base 35 1 (.slice (some ⟨g,0,none⟩) n c) n (uV l))(hl:l.length=n):g<w.heap.size/\∀i,i<n->w.cell? ⟨g,i,none⟩=some (.int .u64 (l.getD i 0))/\w.frozen? ⟨g,i,none⟩=false:=by
 obtain⟨cur,hh,_⟩:=own_block h;refine⟨(Array.getElem?_eq_some_iff.1 hh).1,fun i hi=>⟨?_,h.frozenAt i⟩⟩;rw[h.cellAt i (by omega),uV_get l i (by omega)]
theorem filindex_any(cb:Array Value)(p:Int->Bool)(ao:Option Addr)(n c:Nat)(l:List Int)(w:World)(blk:Nat)(hn:l.length=n)(hbig:n<=1000000)
  (hw:WordsAt w w.heap.size ao l) (ha:AskU 31 cb p w blk l):
  Calls Tryz.prog 58 #[.slice ao n c,.func (.func 31) #[] cb] w fun e w'=>e=.returned (.int .i64 (idxN p l))/\Below w.heap.size w w':=by
 have HW:=Hd hw;have HA:=Hd ha;have HN:=Hd hn;have HY:Hid (∀ k,k<l.length->(∀ j,j<k->p (l.getD j 0)=false)->p (l.getD k 0)=true->idxN p l=k):=fun k hk h1 h2=>by
  unfold idxN;rw[first_at hk h1 h2,if_pos hk]
 have HZ:Hid ((∀ j,j<l.length->p (l.getD j 0)=false)->idxN p l= -1):=fun h=>by
  unfold idxN;rw[(first_none h).1,if_neg (Nat.lt_irrefl _)]
 generalize idxN p l=res at *;clear hw ha hn
 go_enter Tryz.func58,Tryz.ntmps58
 go_upto_region 2 with(fail)
 go_loopg [5,8] n (fun q _ s8 wr=>∃k:Nat,k<=n/\n-k<=q/\s8=.int .i64 k/\Hid (Below w.heap.size w wr/\∀j,j<k->p (l.getD j 0)=false))
 case atStart=>exact⟨0,by omega,by omega,by go_num,br,fun j hj=>by omega⟩
 case round=>
  obtain⟨k,hk,hq,rfl,HR⟩:=hrel;by_cases hlt:k<n
  ·obtain⟨b,off,rfl,hb,hc⟩:=(HW.out.below HR.out.1 lr) (by have:=HN.out;omega)
   have c0:=hc k (by have:=HN.out;omega);have hki:(k:Int)<(n:Int):=by omega
   have hcall:=HA.out wr (l.getD k 0) (Turn.of_below HR.out.1) (by rw[List.getD_eq_getElem?_getD,List.getElem?_eq_getElem (by have:=HN.out;omega)];exact List.getElem_mem _);obtain⟨x,hx⟩:∃x,l.getD k 0=x:=⟨_,rfl⟩;have HX:=Hd hx;rw[hx]at c0 hcall;clear hc hx hb;cases hp:p x with
   |true=>
    rw[hp]at hcall
    go_wp2_with(go_at_call 31;refine hcall.mono ?_;rintro e w2 ⟨rfl,hb2⟩)
    go_ret;exact⟨by rw[HY.out k (by have:=HN.out;omega) HR.out.2 (by rw[HX.out];exact hp)];rfl,HR.out.1.trans (hb2.mono HR.out.1.size)⟩
   |false=>
    rw[hp]at hcall
    go_wp2_with(go_at_call 31;refine hcall.mono ?_;rintro e w2 ⟨rfl,hb2⟩)
    go_roundg (n-(k+1))
    case measure=>omega
    case rel=>
     refine⟨k+1,by omega,lr,by go_num,HR.out.1.trans (hb2.mono HR.out.1.size),fun j hj=>?_⟩;by_cases e:j=k
     ·subst e;rw[HX.out];exact hp
     ·exact HR.out.2 j (by omega)
  ·obtain rfl:k=n:=by omega
   have hki:¬(k:Int)<(k:Int):=by omega
   go_wp2;go_ret;exact⟨by rw[HZ.out fun j hj=>HR.out.2 j (by have:=HN.out;omega)];rfl,HR.out.1⟩
theorem fildelete_any(cb:Array Value)(p:Int->Bool)(ao:Option Addr)(n c:Nat)(l:List Int)(w:World)(B blk:Nat)(hn:l.length=n)(hbig:n<=1000000)
  (_hB:B<=w.heap.size) (ho:w.ownsRow B 35 1 (.slice ao n c) n (uV l)) (ha:AskU 31 cb p w blk l) (hblk:∀g o s,ao=some ⟨g,o,s⟩->g=blk):
  Calls Tryz.prog 30 #[.slice ao n c,.func (.func 31) #[] cb] w fun e w'=>e=.returned (.slice ao (l.filter fun x=> !p x).length c)/\w'.ownsRow B 35 1 (.slice ao (l.filter fun x=> !p x).length c) (l.filter fun x=> !p x).length (uV (l.filter fun x=> !p x))/\Turn (fun k=>ao=some ⟨k,0,none⟩) w w':=by
 have v23:∀w,(zeroValue 35).run Tryz.prog w=.ok (.int .u64 0) w:=fun _=>by kernel_rfl
 have HIF:=Hd (filindex_any cb p ao n c l w blk hn hbig (words_own hn.symm ho) ha);have HO:=Hd ho;have HA:=Hd ha;have HN:=Hd hn;have HBK:=Hd hblk;by_cases hall:∀j,j<l.length->p (l.getD j 0)=false
 ·have h1:=first_none hall
  have e1:idxN p l= -1:=by unfold idxN;rw[h1.1,if_neg (Nat.lt_irrefl _)]
  rw[h1.2];rw[e1]at HIF;rw[hn];clear ho ha hn hblk hall h1 e1
  go_enter Tryz.func30,Tryz.ntmps30
  go_wp2_with fail
  refine HIF.out.mono ?_;rintro e w1 ⟨rfl,hb1⟩;go_wp2;go_ret;exact⟨rfl,own_later HO.out hb1,Turn.of_below hb1⟩
 ·obtain⟨k0,hk0,hno,hyes⟩:∃k,k<l.length/\(∀ j,j<k->p (l.getD j 0)=false)/\p (l.getD k 0)=true:=by
   by_cases h:firstF p l<l.length
   ·refine⟨firstF p l,h,fun j hj=>?_,?_⟩
    ·have:=List.not_of_lt_findIdx (p:=p) (xs:=l) hj
     rw[List.getD_eq_getElem?_getD,List.getElem?_eq_getElem (Nat.lt_trans hj h)];simpa using this
    ·rw[List.getD_eq_getElem?_getD,List.getElem?_eq_getElem h]
     exact List.findIdx_getElem (w:=h)
   ·exact absurd (fun j hj=>by
     have h2:=List.not_of_lt_findIdx (p:=p) (xs:=l) (i:=j) (by unfold firstF at h;omega);rw[List.getD_eq_getElem?_getD,List.getElem?_eq_getElem hj];simpa using h2) hall
  have e1:idxN p l=k0:=by unfold idxN;rw[first_at hk0 hno hyes,if_pos hk0]
  rw[e1]at HIF;obtain⟨g,rfl⟩:∃g,ao=some ⟨g,0,none⟩:=by
   obtain⟨_,_,e,_,_⟩:=own_form ho;rcases ho.2 with⟨hv,h0⟩|⟨g,cap,cur,hv,_⟩
   ·omega
   ·cases hv;exact⟨g,rfl⟩
  obtain rfl:g=blk:=hblk g 0 none rfl;have HS:=Hd (df_start hk0 hno hyes);have hk0n:k0<n:=by omega
  obtain⟨F,hF⟩:∃F,(l.filter fun x=> !p x)=F:=⟨_,rfl⟩;have HF:=Hd hF;obtain⟨m,hm⟩:∃m,F.length=m:=⟨_,rfl⟩;have HM:=Hd hm;rw[hF,hm];have hgw:=(own_cells ho hn).1;clear ho ha hn hblk hall e1 hno hyes hk0 hF hm
  go_enter Tryz.func30,Tryz.ntmps30
  go_wp2_with fail
  refine HIF.out.mono ?_;rintro e w1 ⟨rfl,hb1⟩;have HB1:=Hd hb1;have hgw1:g<w1.heap.size:=Nat.lt_of_lt_of_le hgw hb1.size;clear hb1;have hne1:((k0:Int)== -1)=false:=beq_eq_false_iff_ne.2 (by omega)
  go_upto_region 5 with(fail)
  go_loopg [5,6,7] n (fun q s5 s6 _ wr=>∃(i j:Nat) (dk:List Int),j<=n/\i<j/\n-j<=q/\s5=.int .i64 i/\s6=.int .i64 j/\Hid (DfI p l j i dk/\wr.ownsRow B 35 1 (.slice (some ⟨g,0,none⟩) n c) n (uV dk)/\Turn (fun k=>k=g) w wr))
  case atStart=>exact⟨k0,k0+1,l,by omega,by omega,by omega,rfl,by go_num,HS.out,own_later HO.out HB1.out,Turn.of_below HB1.out⟩
  case round=>
   obtain⟨i,j,dk,hj,hij,hq,rfl,rfl,HR⟩:=hrel;have hdl:dk.length=n:=by rw[HR.out.1.1];exact HN.out
   obtain⟨hgr,hcells⟩:=own_cells HR.out.2.1 hdl;by_cases hlt:j<n
   ·obtain⟨c0,_⟩:=hcells j hlt
    obtain⟨c1,f1⟩:=hcells i (by omega);have e0:dk.getD j 0=l.getD j 0:=by rw[List.getD_eq_getElem?_getD,HR.out.1.2.2.2 j lr, <-List.getD_eq_getElem?_getD]
    rw[e0]at c0;have hcall:=HA.out wr (l.getD j 0) HR.out.2.2 (by rw[List.getD_eq_getElem?_getD,List.getElem?_eq_getElem (by have:=HN.out;omega)];exact List.getElem_mem _);have hki:(j:Int)<(n:Int):=by omega
    obtain⟨x,hx⟩:∃x,l.getD j 0=x:=⟨_,rfl⟩;have HX:=Hd hx;rw[hx]at c0 hcall;clear hcells e0 hx hdl;cases hp:p x with
    |true=>
     rw[hp]at hcall
     go_wp2_with(go_at_call 31;refine hcall.mono ?_;rintro e w2 ⟨rfl,hb2⟩)
     go_roundg (n-(j+1))
     case measure=>omega
     case rel=>exact⟨i,j+1,dk,by omega,by omega,lr,rfl,by go_num,df_skip HR.out.1 (by have:=HN.out;omega) (by rw[HX.out];exact hp),own_later HR.out.2.1 hb2,HR.out.2.2.trans (Turn.of_below (S:=fun k=>k=g) hb2) fun _ _ h=>h⟩
    |false=>
     rw[hp]at hcall
     go_upto_region 8 with(fail)
     go_wp2_with(go_at_call 31;refine hcall.mono ?_;rintro e w2 ⟨rfl,hb2⟩;have c2:w2.cell? ⟨g,i,none⟩=some (.int .u64 (dk.getD i 0)):=(hb2.cell (p:=⟨g,i,none⟩) hgr).trans c1;have f2:w2.frozen? ⟨g,i,none⟩=false:=(own_later HR.out.2.1 hb2).frozenAt i)
     go_roundg (n-(j+1))
     case measure=>omega
     case rel=>
      refine⟨i+1,j+1,dk.set i x,by omega,by omega,lr,by go_num,by go_num,?_,?_,?_⟩
      ·have:=df_keep HR.out.1 (by have:=HN.out;omega) (by rw[HX.out];exact hp)
       rwa[HX.out]at this
      ·rw[uV_set];exact own_drew (own_set (own_later HR.out.2.1 hb2) i _)
      ·exact(Turn.setCell (S:=fun k=>k=g) (a:=⟨g,i,none⟩) (HR.out.2.2.trans (Turn.of_below (S:=fun k=>k=g) hb2) fun _ _ h=>h) rfl _).drew
   ·obtain rfl:j=n:=by omega
    have hki:¬(j:Int)<(j:Int):=by omega
    have hic:j<=c:=by
     obtain⟨cur,_,_,h,_⟩:=own_block HR.out.2.1;exact h
    have hcl:∀ty,(Builtin.clear_ #[22] ty #[.slice (some ⟨g,i,none⟩) (j-i) (c-i)]).run Tryz.prog wr=.ok (.tuple #[]) (wr.setCells g i (List.replicate (j-i) (.int .u64 0))):=
     fun ty=>Lib.run_clear_slice wr _ _ ty _ Tryz.underlying22 v23 rfl rfl g i _ _ (by omega) (fun t ht=>by rw[(hcells (i+t) (by omega)).1];rfl) (fun t ht=>(hcells (i+t) (by omega)).2)
    have HFI:Hid (F=dk.take i/\F.length=i):=by
     have e2:=HR.out.1.2.2.1;rw[List.take_of_length_le (by rw[HN.out];exact lr),HF.out]at e2;exact⟨e2,by rw[e2,List.length_take,hdl];omega⟩
    have HE:Hid ((wr.setCells g i (List.replicate (j-i) (.int .u64 0))).ownsRow B 35 1 (.slice (some ⟨g,0,none⟩) i c) i (uV F)/\Turn (fun k=>k=g) w (wr.setCells g i (List.replicate (j-i) (.int .u64 0)))):=by
     obtain⟨ys,h1,h2⟩:=own_setCells (List.replicate (j-i) (.int .u64 0)) i _ _ HR.out.2.1;refine⟨?_,turn_setCells _ _ _ _ HR.out.2.2⟩;have h3:=own_take h1 (m:=i) (by omega);rw[Nat.mul_one,h2, <-uV_take, <-HFI.out.1]at h3;exact h3
    have him:i=m:=by rw[<- HM.out];exact HFI.out.2.symm
    clear hcells hdl;subst him;go_wp2;go_ret;exact⟨rfl,HE.out.1,HE.out.2.2.2.2.1 |> fun h5=>⟨HE.out.2.1,HE.out.2.2.1,HE.out.2.2.2.1,h5,fun k hk hs=>HE.out.2.2.2.2.2 k hk fun e=>hs (by rw[e])⟩⟩
theorem cenindex_any(cb:Array Value)(p:Int->Bool)(ao:Option Addr)(n c:Nat)(l:List Int)(w:World)(blk:Nat)(hn:l.length=n)(hbig:n<=1000000)
  (hw:WordsAt w w.heap.size ao l) (ha:AskU 33 cb p w blk l):
  Calls Tryz.prog 58 #[.slice ao n c,.func (.func 33) #[] cb] w fun e w'=>e=.returned (.int .i64 (idxN p l))/\Below w.heap.size w w':=by
 have HW:=Hd hw;have HA:=Hd ha;have HN:=Hd hn;have HY:Hid (∀ k,k<l.length->(∀ j,j<k->p (l.getD j 0)=false)->p (l.getD k 0)=true->idxN p l=k):=fun k hk h1 h2=>by
  unfold idxN;rw[first_at hk h1 h2,if_pos hk]
 have HZ:Hid ((∀ j,j<l.length->p (l.getD j 0)=false)->idxN p l= -1):=fun h=>by
  unfold idxN;rw[(first_none h).1,if_neg (Nat.lt_irrefl _)]
 generalize idxN p l=res at *;clear hw ha hn
 go_enter Tryz.func58,Tryz.ntmps58
 go_upto_region 2 with(fail)
 go_loopg [5,8] n (fun q _ s8 wr=>∃k:Nat,k<=n/\n-k<=q/\s8=.int .i64 k/\Hid (Below w.heap.size w wr/\∀j,j<k->p (l.getD j 0)=false))
 case atStart=>exact⟨0,by omega,by omega,by go_num,br,fun j hj=>by omega⟩
 case round=>
  obtain⟨k,hk,hq,rfl,HR⟩:=hrel;by_cases hlt:k<n
  ·obtain⟨b,off,rfl,hb,hc⟩:=(HW.out.below HR.out.1 lr) (by have:=HN.out;omega)
   have c0:=hc k (by have:=HN.out;omega);have hki:(k:Int)<(n:Int):=by omega
   have hcall:=HA.out wr (l.getD k 0) (Turn.of_below HR.out.1) (by rw[List.getD_eq_getElem?_getD,List.getElem?_eq_getElem (by have:=HN.out;omega)];exact List.getElem_mem _);obtain⟨x,hx⟩:∃x,l.getD k 0=x:=⟨_,rfl⟩;have HX:=Hd hx;rw[hx]at c0 hcall;clear hc hx hb;cases hp:p x with
   |true=>
    rw[hp]at hcall
    go_wp2_with(go_at_call 33;refine hcall.mono ?_;rintro e w2 ⟨rfl,hb2⟩)
    go_ret;exact⟨by rw[HY.out k (by have:=HN.out;omega) HR.out.2 (by rw[HX.out];exact hp)];rfl,HR.out.1.trans (hb2.mono HR.out.1.size)⟩
   |false=>
    rw[hp]at hcall
    go_wp2_with(go_at_call 33;refine hcall.mono ?_;rintro e w2 ⟨rfl,hb2⟩)
    go_roundg (n-(k+1))
    case measure=>omega
    case rel=>
     refine⟨k+1,by omega,lr,by go_num,HR.out.1.trans (hb2.mono HR.out.1.size),fun j hj=>?_⟩;by_cases e:j=k
     ·subst e;rw[HX.out];exact hp
     ·exact HR.out.2 j (by omega)
  ·obtain rfl:k=n:=by omega
   have hki:¬(k:Int)<(k:Int):=by omega
   go_wp2;go_ret;exact⟨by rw[HZ.out fun j hj=>HR.out.2 j (by have:=HN.out;omega)];rfl,HR.out.1⟩
theorem cendelete_any(cb:Array Value)(p:Int->Bool)(ao:Option Addr)(n c:Nat)(l:List Int)(w:World)(B blk:Nat)(hn:l.length=n)(hbig:n<=1000000)
  (_hB:B<=w.heap.size) (ho:w.ownsRow B 35 1 (.slice ao n c) n (uV l)) (ha:AskU 33 cb p w blk l) (hblk:∀g o s,ao=some ⟨g,o,s⟩->g=blk):
  Calls Tryz.prog 30 #[.slice ao n c,.func (.func 33) #[] cb] w fun e w'=>e=.returned (.slice ao (l.filter fun x=> !p x).length c)/\w'.ownsRow B 35 1 (.slice ao (l.filter fun x=> !p x).length c) (l.filter fun x=> !p x).length (uV (l.filter fun x=> !p x))/\Turn (fun k=>ao=some ⟨k,0,none⟩) w w':=by
 have v23:∀w,(zeroValue 35).run Tryz.prog w=.ok (.int .u64 0) w:=fun _=>by kernel_rfl
 have HIF:=Hd (cenindex_any cb p ao n c l w blk hn hbig (words_own hn.symm ho) ha);have HO:=Hd ho;have HA:=Hd ha;have HN:=Hd hn;have HBK:=Hd hblk;by_cases hall:∀j,j<l.length->p (l.getD j 0)=false
 ·have h1:=first_none hall
  have e1:idxN p l= -1:=by unfold idxN;rw[h1.1,if_neg (Nat.lt_irrefl _)]
  rw[h1.2];rw[e1]at HIF;rw[hn];clear ho ha hn hblk hall h1 e1
  go_enter Tryz.func30,Tryz.ntmps30
  go_wp2_with fail
  refine HIF.out.mono ?_;rintro e w1 ⟨rfl,hb1⟩;go_wp2;go_ret;exact⟨rfl,own_later HO.out hb1,Turn.of_below hb1⟩
 ·obtain⟨k0,hk0,hno,hyes⟩:∃k,k<l.length/\(∀ j,j<k->p (l.getD j 0)=false)/\p (l.getD k 0)=true:=by
   by_cases h:firstF p l<l.length
   ·refine⟨firstF p l,h,fun j hj=>?_,?_⟩
    ·have:=List.not_of_lt_findIdx (p:=p) (xs:=l) hj
     rw[List.getD_eq_getElem?_getD,List.getElem?_eq_getElem (Nat.lt_trans hj h)];simpa using this
    ·rw[List.getD_eq_getElem?_getD,List.getElem?_eq_getElem h]
     exact List.findIdx_getElem (w:=h)
   ·exact absurd (fun j hj=>by
     have h2:=List.not_of_lt_findIdx (p:=p) (xs:=l) (i:=j) (by unfold firstF at h;omega);rw[List.getD_eq_getElem?_getD,List.getElem?_eq_getElem hj];simpa using h2) hall
  have e1:idxN p l=k0:=by unfold idxN;rw[first_at hk0 hno hyes,if_pos hk0]
  rw[e1]at HIF;obtain⟨g,rfl⟩:∃g,ao=some ⟨g,0,none⟩:=by
   obtain⟨_,_,e,_,_⟩:=own_form ho;rcases ho.2 with⟨hv,h0⟩|⟨g,cap,cur,hv,_⟩
   ·omega
   ·cases hv;exact⟨g,rfl⟩
  obtain rfl:g=blk:=hblk g 0 none rfl;have HS:=Hd (df_start hk0 hno hyes);have hk0n:k0<n:=by omega
  obtain⟨F,hF⟩:∃F,(l.filter fun x=> !p x)=F:=⟨_,rfl⟩;have HF:=Hd hF;obtain⟨m,hm⟩:∃m,F.length=m:=⟨_,rfl⟩;have HM:=Hd hm;rw[hF,hm];have hgw:=(own_cells ho hn).1;clear ho ha hn hblk hall e1 hno hyes hk0 hF hm
  go_enter Tryz.func30,Tryz.ntmps30
  go_wp2_with fail
  refine HIF.out.mono ?_;rintro e w1 ⟨rfl,hb1⟩;have HB1:=Hd hb1;have hgw1:g<w1.heap.size:=Nat.lt_of_lt_of_le hgw hb1.size;clear hb1;have hne1:((k0:Int)== -1)=false:=beq_eq_false_iff_ne.2 (by omega)
  go_upto_region 5 with(fail)
  go_loopg [5,6,7] n (fun q s5 s6 _ wr=>∃(i j:Nat) (dk:List Int),j<=n/\i<j/\n-j<=q/\s5=.int .i64 i/\s6=.int .i64 j/\Hid (DfI p l j i dk/\wr.ownsRow B 35 1 (.slice (some ⟨g,0,none⟩) n c) n (uV dk)/\Turn (fun k=>k=g) w wr))
  case atStart=>exact⟨k0,k0+1,l,by omega,by omega,by omega,rfl,by go_num,HS.out,own_later HO.out HB1.out,Turn.of_below HB1.out⟩
  case round=>
   obtain⟨i,j,dk,hj,hij,hq,rfl,rfl,HR⟩:=hrel;have hdl:dk.length=n:=by rw[HR.out.1.1];exact HN.out
   obtain⟨hgr,hcells⟩:=own_cells HR.out.2.1 hdl;by_cases hlt:j<n
   ·obtain⟨c0,_⟩:=hcells j hlt
    obtain⟨c1,f1⟩:=hcells i (by omega);have e0:dk.getD j 0=l.getD j 0:=by rw[List.getD_eq_getElem?_getD,HR.out.1.2.2.2 j lr, <-List.getD_eq_getElem?_getD]
    rw[e0]at c0;have hcall:=HA.out wr (l.getD j 0) HR.out.2.2 (by rw[List.getD_eq_getElem?_getD,List.getElem?_eq_getElem (by have:=HN.out;omega)];exact List.getElem_mem _);have hki:(j:Int)<(n:Int):=by omega
    obtain⟨x,hx⟩:∃x,l.getD j 0=x:=⟨_,rfl⟩;have HX:=Hd hx;rw[hx]at c0 hcall;clear hcells e0 hx hdl;cases hp:p x with
    |true=>
     rw[hp]at hcall
     go_wp2_with(go_at_call 33;refine hcall.mono ?_;rintro e w2 ⟨rfl,hb2⟩)
     go_roundg (n-(j+1))
     case measure=>omega
     case rel=>exact⟨i,j+1,dk,by omega,by omega,lr,rfl,by go_num,df_skip HR.out.1 (by have:=HN.out;omega) (by rw[HX.out];exact hp),own_later HR.out.2.1 hb2,HR.out.2.2.trans (Turn.of_below (S:=fun k=>k=g) hb2) fun _ _ h=>h⟩
    |false=>
     rw[hp]at hcall
     go_upto_region 8 with(fail)
     go_wp2_with(go_at_call 33;refine hcall.mono ?_;rintro e w2 ⟨rfl,hb2⟩;have c2:w2.cell? ⟨g,i,none⟩=some (.int .u64 (dk.getD i 0)):=(hb2.cell (p:=⟨g,i,none⟩) hgr).trans c1;have f2:w2.frozen? ⟨g,i,none⟩=false:=(own_later HR.out.2.1 hb2).frozenAt i)
     go_roundg (n-(j+1))
     case measure=>omega
     case rel=>
      refine⟨i+1,j+1,dk.set i x,by omega,by omega,lr,by go_num,by go_num,?_,?_,?_⟩
      ·have:=df_keep HR.out.1 (by have:=HN.out;omega) (by rw[HX.out];exact hp)
       rwa[HX.out]at this
      ·rw[uV_set];exact own_drew (own_set (own_later HR.out.2.1 hb2) i _)
      ·exact(Turn.setCell (S:=fun k=>k=g) (a:=⟨g,i,none⟩) (HR.out.2.2.trans (Turn.of_below (S:=fun k=>k=g) hb2) fun _ _ h=>h) rfl _).drew
   ·obtain rfl:j=n:=by omega
    have hki:¬(j:Int)<(j:Int):=by omega
    have hic:j<=c:=by
     obtain⟨cur,_,_,h,_⟩:=own_block HR.out.2.1;exact h
    have hcl:∀ty,(Builtin.clear_ #[22] ty #[.slice (some ⟨g,i,none⟩) (j-i) (c-i)]).run Tryz.prog wr=.ok (.tuple #[]) (wr.setCells g i (List.replicate (j-i) (.int .u64 0))):=
     fun ty=>Lib.run_clear_slice wr _ _ ty _ Tryz.underlying22 v23 rfl rfl g i _ _ (by omega) (fun t ht=>by rw[(hcells (i+t) (by omega)).1];rfl) (fun t ht=>(hcells (i+t) (by omega)).2)
    have HFI:Hid (F=dk.take i/\F.length=i):=by
     have e2:=HR.out.1.2.2.1;rw[List.take_of_length_le (by rw[HN.out];exact lr),HF.out]at e2;exact⟨e2,by rw[e2,List.length_take,hdl];omega⟩
    have HE:Hid ((wr.setCells g i (List.replicate (j-i) (.int .u64 0))).ownsRow B 35 1 (.slice (some ⟨g,0,none⟩) i c) i (uV F)/\Turn (fun k=>k=g) w (wr.setCells g i (List.replicate (j-i) (.int .u64 0)))):=by
     obtain⟨ys,h1,h2⟩:=own_setCells (List.replicate (j-i) (.int .u64 0)) i _ _ HR.out.2.1;refine⟨?_,turn_setCells _ _ _ _ HR.out.2.2⟩;have h3:=own_take h1 (m:=i) (by omega);rw[Nat.mul_one,h2, <-uV_take, <-HFI.out.1]at h3;exact h3
    have him:i=m:=by rw[<- HM.out];exact HFI.out.2.symm
    clear hcells hdl;subst him;go_wp2;go_ret;exact⟨rfl,HE.out.1,HE.out.2.2.2.2.1 |> fun h5=>⟨HE.out.2.1,HE.out.2.2.1,HE.out.2.2.2.1,h5,fun k hk hs=>HE.out.2.2.2.2.2 k hk fun e=>hs (by rw[e])⟩⟩
end
section
open Go.RowKit
theorem add64_run(x y c:Nat)(hc:c<=1)(w:World):
  (callFunc 119 #[.int .u64 x,.int .u64 y,.int .u64 c]).run Tryz.prog w=
   .ok (.value (.tuple #[.int .u64 (((x+y+c)%18446744073709551616:Nat):Int),.int .u64 (((x+y+c)/18446744073709551616:Nat):Int)])) w:=by
 rw[run_callFunc_extern Tryz.func119 (by kernel_rfl) (by kernel_rfl) (by kernel_rfl) (e:=add64Entry) (by kernel_rfl),run_add64 x y c (by omega) (by omega) (by omega) (by omega)];simp only[Result.andThen];congr 5 <;> omega
def pL(al bl:Nat):Nat:=(al+bl)%18446744073709551616
def pH(ah al bh bl:Nat):Nat:=(ah+bh+(al+bl)/18446744073709551616)%18446744073709551616
theorem plus_any(ah al bh bl:Nat)(h1:al<18446744073709551616)(h2:bl<18446744073709551616)(w:World):
  Calls Tryz.prog 75 #[.agg #[.int .u64 ah,.int .u64 al],.agg #[.int .u64 bh,.int .u64 bl]] w fun e w'=>e=.returned (.agg #[.int .u64 (pH ah al bh bl),.int .u64 (pL al bl)])/\Below w.heap.size w w':=by
 obtain⟨c,hc⟩:∃c,(al+bl+0)/18446744073709551616=c:=⟨_,rfl⟩;obtain⟨l,hl⟩:∃c,(al+bl+0)%18446744073709551616=c:=⟨_,rfl⟩;obtain⟨h,hh⟩:∃h,(ah+bh+c)%18446744073709551616=h:=⟨_,rfl⟩;obtain⟨k,hk⟩:∃h,(ah+bh+c)/18446744073709551616=h:=⟨_,rfl⟩;have A1:∀w,(callFunc 119 #[.int .u64 al,.int .u64 bl,.int .u64 0]).run Tryz.prog w=.ok (.value (.tuple #[.int .u64 (l:Nat),.int .u64 (c:Nat)])) w:=fun w=>by
  have:=add64_run al bl 0 (by omega) w;rw[hc,hl]at this;exact this
 have A2:∀w,(callFunc 119 #[.int .u64 ah,.int .u64 bh,.int .u64 c]).run Tryz.prog w=.ok (.value (.tuple #[.int .u64 (h:Nat),.int .u64 (k:Nat)])) w:=fun w=>by
  have:=add64_run ah bh c (by omega) w;rw[hh,hk]at this;exact this
 have HC:Hid (pH ah al bh bl=h):=by show _=_;unfold pH;rw[<- hh, <-hc];rfl
 have HL:Hid (pL al bl=l):=by show _=_;unfold pL;rw[<- hl];rfl
 clear hc hl hh hk h1 h2
 go_enter Tryz.func75,Tryz.ntmps75
 go_wp2;exact bodyPost_ret (v:=.agg #[.int .u64 h,.int .u64 l]) (by simp[results,Tryz.results75,go_sem]) rfl ⟨by rw[HC.out,HL.out],((br.alloc lr _).alloc (by simp) _).alloc (by simp;omega) _⟩
structure Rep (h l:Nat) (A:Int):Prop where
 hh:h<18446744073709551616
 hl:l<18446744073709551616
 val:((h:Int)*18446744073709551616+(l:Int)-A)%340282366920938463463374607431768211456=0
theorem Rep.plus{ah al bh bl:Nat}{A B:Int}(h1:Rep ah al A)(h2:Rep bh bl B):Rep (pH ah al bh bl) (pL al bl) (A+B):=by
 obtain⟨a1,a2,a3⟩:=h1;obtain⟨b1,b2,b3⟩:=h2;unfold pH pL;exact⟨by omega,by omega,by omega⟩
theorem plus_rep{ah al bh bl:Nat}{A B:Int}(h1:Rep ah al A)(h2:Rep bh bl B)(w:World):
  Calls Tryz.prog 75 #[.agg #[.int .u64 ah,.int .u64 al],.agg #[.int .u64 bh,.int .u64 bl]] w fun e w'=>∃h l:Nat,e=.returned (.agg #[.int .u64 h,.int .u64 l])/\Rep h l (A+B)/\Below w.heap.size w w':=
 (plus_any ah al bh bl h1.hl h2.hl w).mono fun _ _ ⟨he,hb⟩=>⟨_,_,he,h1.plus h2,hb⟩
theorem not_u64(x:Nat)(hx:x<18446744073709551616):bits .xor .u64 IntKind.u64.max (x:Int)=((18446744073709551615-x:Nat):Int):=by
 unfold bits;simp only[];show IntKind.u64.wrap ((BitVec.ofInt 64 IntKind.u64.max ^^^ BitVec.ofInt 64 (x:Int)).toNat:Int)=_;have e1:BitVec.ofInt 64 IntKind.u64.max=BitVec.allOnes 64:=by decide
 have e2:BitVec.allOnes 64 ^^^ BitVec.ofInt 64 (x:Int)= ~~~ BitVec.ofInt 64 (x:Int):=by
  rw[BitVec.xor_comm,BitVec.xor_allOnes]
 rw[e1,e2,BitVec.toNat_not,BitVec.ofInt_natCast,BitVec.toNat_ofNat,Nat.mod_eq_of_lt (by simpa using hx),IntKind.wrap_u64];omega
theorem Rep.turned{h l:Nat}{A:Int}(h1:Rep h l A):Rep (pH (18446744073709551615-h) (18446744073709551615-l) 0 1) (pL (18446744073709551615-l) 1) (-A):=by
 obtain⟨a1,a2,a3⟩:=h1;unfold pH pL;exact⟨by omega,by omega,by omega⟩
theorem turned_rep{h l:Nat}{A:Int}(hr:Rep h l A)(w:World):
  Calls Tryz.prog 40 #[.agg #[.int .u64 h,.int .u64 l]] w fun e w'=>∃h' l':Nat,e=.returned (.agg #[.int .u64 h',.int .u64 l'])/\Rep h' l' (-A)/\Below w.heap.size w w':=by
 have HT:=Hd hr.turned;have P1:=plus_any (18446744073709551615-h) (18446744073709551615-l) 0 1 (by omega) (by omega);have e1:=not_u64 h hr.hh;have e2:=not_u64 l hr.hl;obtain⟨ch,hch⟩:∃c,18446744073709551615-h=c:=⟨_,rfl⟩;obtain⟨cl,hcl⟩:∃c,18446744073709551615-l=c:=⟨_,rfl⟩;rw[hch]at e1 P1 HT;rw[hcl]at e2 P1 HT;obtain⟨h',hh'⟩:∃c,pH ch cl 0 1=c:=⟨_,rfl⟩;obtain⟨l',hl'⟩:∃c,pL cl 1=c:=⟨_,rfl⟩;rw[hh',hl']at P1 HT;have HP:=Hd P1;clear hch hcl hr P1 hh' hl'
 go_enter Tryz.func40,Tryz.ntmps40
 go_wp2_with fail
 refine(HP.out _).mono ?_;rintro e w1 ⟨rfl,hb1⟩;have hz:w.heap.size+1<w1.heap.size:=by have:=hb1.size;simp at this;omega
 have c0:w1.frozen? ⟨w.heap.size+1,0,none⟩=false:=by rw[hb1.frozen (p:=⟨w.heap.size+1,0,none⟩) (by simp)];exact frozen_of_row _ _ _ _ _ (heap_new _ _ _ (by simp))
 have c1:w1.frozen? ⟨w.heap.size+1,1,none⟩=false:=by rw[hb1.frozen (p:=⟨w.heap.size+1,1,none⟩) (by simp)];exact frozen_of_row _ _ _ _ _ (heap_new _ _ _ (by simp))
 have d0:w1.cell? ⟨w.heap.size+1,0,none⟩=some (.int .u64 0):=by rw[hb1.cell (p:=⟨w.heap.size+1,0,none⟩) (by simp),cell_of_row _ _ _ _ _ _ (heap_new _ _ _ (by simp))];rfl
 have d1:w1.cell? ⟨w.heap.size+1,1,none⟩=some (.int .u64 0):=by rw[hb1.cell (p:=⟨w.heap.size+1,1,none⟩) (by simp),cell_of_row _ _ _ _ _ _ (heap_new _ _ _ (by simp))];rfl
 have hb2:Hid (Below w.heap.size w w1):=(((br.alloc lr _).alloc (by simp) _).trans (hb1.mono (by simp;omega)));clear hb1;go_wp2;exact bodyPost_ret (v:=.agg #[.int .u64 h',.int .u64 l']) (by simp[results,Tryz.results40,go_sem, *]) rfl ⟨_,_,rfl,HT.out,(hb2.out.setCell (p:=⟨w.heap.size+1,0,none⟩) (by simp) _).setCell (p:=⟨w.heap.size+1,1,none⟩) (by simp) _⟩
theorem mul64_any(x y:Nat)(hx:x<18446744073709551616)(hy:y<18446744073709551616)(w:World):
  Calls Tryz.prog 39 #[.int .u64 x,.int .u64 y] w fun e w'=>e=.returned (.tuple #[.int .u64 ((x*y/18446744073709551616:Nat):Int),.int .u64 ((x*y%18446744073709551616:Nat):Int)])/\w=w':=by
 obtain⟨bd,bt,bw,hhi⟩:=Lib.mul64_hi x y hx hy;have ba:=Lib.half_mul_le (a:=x/4294967296) (b:=y/4294967296) (by omega) (by omega);have bb:=Lib.half_mul_le (a:=x/4294967296) (b:=y%4294967296) (by omega) (by omega);have bc:=Lib.half_mul_le (a:=x%4294967296) (b:=y/4294967296) (by omega) (by omega);have ba':x/4294967296*(y/4294967296)<18446744073709551616:=by omega
 have bb':x/4294967296*(y%4294967296)<18446744073709551616:=by omega
 have bc':x%4294967296*(y/4294967296)<18446744073709551616:=by omega
 have bh1:x/4294967296*(y/4294967296)+(x/4294967296*(y%4294967296)+x%4294967296*(y%4294967296)/4294967296)/4294967296<18446744073709551616:=by omega
 have bh:x/4294967296*(y/4294967296)+(x/4294967296*(y%4294967296)+x%4294967296*(y%4294967296)/4294967296)/4294967296+((x/4294967296*(y%4294967296)+x%4294967296*(y%4294967296)/4294967296)%4294967296+x%4294967296*(y/4294967296))/4294967296<18446744073709551616:=by omega
 go_enter Tryz.func39,Tryz.ntmps39
 go_wp2;simp only[Mul64.maskN x hx,Mul64.maskN y hy,Mul64.divN,Mul64.mulN,Mul64.addN,Mul64.wrapN _ bd,Mul64.wrapN _ bb',Mul64.wrapN _ bt,Mul64.maskN _ bt,Mul64.wrapN _ bc',Mul64.wrapN _ bw,Mul64.wrapN _ ba',Mul64.wrapN _ bh1,Mul64.wrapN _ bh,Mul64.wrapM (x*y)];rw[hhi];go_ret2;exact⟨rfl,rfl⟩
theorem rep_prod{x y:Nat}{A:Int}(_hx:x<=9223372036854775808)(_hy:y<=9223372036854775808)(hA:((x*y:Nat):Int)=A)(hb:x*y<340282366920938463463374607431768211456):Rep (x*y/18446744073709551616) (x*y%18446744073709551616) A:=by
 subst hA;generalize x*y=n at *;exact⟨by omega,by omega,by omega⟩
theorem times_rep(a b:Int)(ha: -9223372036854775808<=a/\a<=9223372036854775807)(hb: -9223372036854775808<=b/\b<=9223372036854775807)(w:World):
  Calls Tryz.prog 16 #[.int .i64 a,.int .i64 b] w fun e w'=>∃h l:Nat,e=.returned (.agg #[.int .u64 h,.int .u64 l])/\Rep h l (a*b)/\Below w.heap.size w w':=by
 obtain⟨x,hx⟩:∃x,a.natAbs=x:=⟨_,rfl⟩;obtain⟨y,hy⟩:∃x,b.natAbs=x:=⟨_,rfl⟩;have hx1:x<=9223372036854775808:=by omega
 have hy1:y<=9223372036854775808:=by omega
 have hxy:x*y<340282366920938463463374607431768211456:=Nat.lt_of_le_of_lt (Nat.mul_le_mul hx1 hy1) (by decide);have HM:Hid (∀ w:World,_):=fun w=>mul64_any x y (by omega) (by omega) w
 have ea:IntKind.u64.wrap a=if a<0 then((18446744073709551616-x:Nat):Int)else(x:Int):=by rw[IntKind.wrap_u64];split <;> omega
 have eb:IntKind.u64.wrap b=if b<0 then((18446744073709551616-y:Nat):Int)else(y:Int):=by rw[IntKind.wrap_u64];split <;> omega
 have en:∀z:Nat,z<=9223372036854775808->0<z->IntKind.u64.wrap (-((18446744073709551616-z:Nat):Int))=(z:Int):=fun z h1 h2=>by rw[IntKind.wrap_u64];omega
 by_cases h1:a<0 <;> by_cases h2:b<0
 ·have HR:Hid (Rep (x*y/18446744073709551616) (x*y%18446744073709551616) (a*b)):=rep_prod hx1 hy1 (by rw[Int.natCast_mul,show(x:Int)= -a by omega,show(y:Int)= -b by omega,Int.neg_mul_neg]) hxy
  rw[if_pos h1]at ea;rw[if_pos h2]at eb;have na:=en x hx1 (by omega);obtain⟨ca,hca⟩:∃c,18446744073709551616-x=c:=⟨_,rfl⟩;rw[hca]at ea na;clear hca;have nb:=en y hy1 (by omega);obtain⟨cb,hcb⟩:∃c,18446744073709551616-y=c:=⟨_,rfl⟩;rw[hcb]at eb nb;clear hcb;generalize x*y/18446744073709551616=H at HM HR;generalize x*y%18446744073709551616=L at HM HR;clear en hx hy ha hb hx1 hy1 hxy
  go_enter Tryz.func16,Tryz.ntmps16
  go_wp2_with(go_at_call 39;refine(HM.out _).mono ?_;rintro e w' ⟨rfl,rfl⟩)
  exact bodyPost_ret (v:=.agg #[.int .u64 H,.int .u64 L]) (by simp[results,Tryz.results16,go_sem]) rfl ⟨_,_,rfl,HR.out,br.alloc lr _⟩
 ·have HR:Hid (Rep (x*y/18446744073709551616) (x*y%18446744073709551616) (-(a*b))):=rep_prod hx1 hy1 (by rw[Int.natCast_mul,show(x:Int)= -a by omega,show(y:Int)=b by omega,Int.neg_mul]) hxy
  rw[if_pos h1]at ea;rw[if_neg h2]at eb;have qb:decide (b<0)=false:=by simpa using h2
  have na:=en x hx1 (by omega);obtain⟨ca,hca⟩:∃c,18446744073709551616-x=c:=⟨_,rfl⟩;rw[hca]at ea na;clear hca;generalize x*y/18446744073709551616=H at HM HR;generalize x*y%18446744073709551616=L at HM HR;clear en hx hy ha hb hx1 hy1 hxy;have HT:Hid (∀ w:World,_):=fun w=>turned_rep HR.out w
  go_enter Tryz.func16,Tryz.ntmps16
  go_wp2_with(go_at_call 39;refine(HM.out _).mono ?_;rintro e w' ⟨rfl,rfl⟩)
  refine(HT.out _).mono ?_;rintro e w1 ⟨h',l',rfl,hr1,hb1⟩;rw[Int.neg_neg]at hr1;have HR1:=Hd hr1;have hz:w.heap.size<w1.heap.size:=by have:=hb1.size;simp at this;omega
  have c0:w1.frozen? ⟨w.heap.size,0,none⟩=false:=by rw[hb1.frozen (p:=⟨w.heap.size,0,none⟩) (by simp)];exact frozen_of_row _ _ _ _ _ (heap_new _ _ _ (by simp))
  have c1:w1.frozen? ⟨w.heap.size,1,none⟩=false:=by rw[hb1.frozen (p:=⟨w.heap.size,1,none⟩) (by simp)];exact frozen_of_row _ _ _ _ _ (heap_new _ _ _ (by simp))
  have d0:w1.cell? ⟨w.heap.size,0,none⟩=some (.int .u64 0):=by rw[hb1.cell (p:=⟨w.heap.size,0,none⟩) (by simp),cell_of_row _ _ _ _ _ _ (heap_new _ _ _ (by simp))];rfl
  have d1:w1.cell? ⟨w.heap.size,1,none⟩=some (.int .u64 0):=by rw[hb1.cell (p:=⟨w.heap.size,1,none⟩) (by simp),cell_of_row _ _ _ _ _ _ (heap_new _ _ _ (by simp))];rfl
  have hb2:Hid (Below w.heap.size w w1):=((br.alloc lr _).trans (hb1.mono (by simp)));clear hb1 hr1;go_wp2;exact bodyPost_ret (v:=.agg #[.int .u64 h',.int .u64 l']) (by simp[results,Tryz.results16,go_sem, *]) rfl ⟨_,_,rfl,HR1.out,(hb2.out.setCell (p:=⟨w.heap.size,0,none⟩) (by simp) _).setCell (p:=⟨w.heap.size,1,none⟩) (by simp) _⟩
 ·have HR:Hid (Rep (x*y/18446744073709551616) (x*y%18446744073709551616) (-(a*b))):=rep_prod hx1 hy1 (by rw[Int.natCast_mul,show(x:Int)=a by omega,show(y:Int)= -b by omega,Int.mul_neg]) hxy
  rw[if_neg h1]at ea;have qa:decide (a<0)=false:=by simpa using h1
  rw[if_pos h2]at eb;have nb:=en y hy1 (by omega);obtain⟨cb,hcb⟩:∃c,18446744073709551616-y=c:=⟨_,rfl⟩;rw[hcb]at eb nb;clear hcb;generalize x*y/18446744073709551616=H at HM HR;generalize x*y%18446744073709551616=L at HM HR;clear en hx hy ha hb hx1 hy1 hxy;have HT:Hid (∀ w:World,_):=fun w=>turned_rep HR.out w
  go_enter Tryz.func16,Tryz.ntmps16
  go_wp2_with(go_at_call 39;refine(HM.out _).mono ?_;rintro e w' ⟨rfl,rfl⟩)
  refine(HT.out _).mono ?_;rintro e w1 ⟨h',l',rfl,hr1,hb1⟩;rw[Int.neg_neg]at hr1;have HR1:=Hd hr1;have hz:w.heap.size<w1.heap.size:=by have:=hb1.size;simp at this;omega
  have c0:w1.frozen? ⟨w.heap.size,0,none⟩=false:=by rw[hb1.frozen (p:=⟨w.heap.size,0,none⟩) (by simp)];exact frozen_of_row _ _ _ _ _ (heap_new _ _ _ (by simp))
  have c1:w1.frozen? ⟨w.heap.size,1,none⟩=false:=by rw[hb1.frozen (p:=⟨w.heap.size,1,none⟩) (by simp)];exact frozen_of_row _ _ _ _ _ (heap_new _ _ _ (by simp))
  have d0:w1.cell? ⟨w.heap.size,0,none⟩=some (.int .u64 0):=by rw[hb1.cell (p:=⟨w.heap.size,0,none⟩) (by simp),cell_of_row _ _ _ _ _ _ (heap_new _ _ _ (by simp))];rfl
  have d1:w1.cell? ⟨w.heap.size,1,none⟩=some (.int .u64 0):=by rw[hb1.cell (p:=⟨w.heap.size,1,none⟩) (by simp),cell_of_row _ _ _ _ _ _ (heap_new _ _ _ (by simp))];rfl
  have hb2:Hid (Below w.heap.size w w1):=((br.alloc lr _).trans (hb1.mono (by simp)));clear hb1 hr1;go_wp2;exact bodyPost_ret (v:=.agg #[.int .u64 h',.int .u64 l']) (by simp[results,Tryz.results16,go_sem, *]) rfl ⟨_,_,rfl,HR1.out,(hb2.out.setCell (p:=⟨w.heap.size,0,none⟩) (by simp) _).setCell (p:=⟨w.heap.size,1,none⟩) (by simp) _⟩
 ·have HR:Hid (Rep (x*y/18446744073709551616) (x*y%18446744073709551616) (a*b)):=rep_prod hx1 hy1 (by rw[Int.natCast_mul,show(x:Int)=a by omega,show(y:Int)=b by omega]) hxy
  rw[if_neg h1]at ea;have qa:decide (a<0)=false:=by simpa using h1
  rw[if_neg h2]at eb;have qb:decide (b<0)=false:=by simpa using h2
  generalize x*y/18446744073709551616=H at HM HR;generalize x*y%18446744073709551616=L at HM HR;clear en hx hy ha hb hx1 hy1 hxy
  go_enter Tryz.func16,Tryz.ntmps16
  go_wp2_with(go_at_call 39;refine(HM.out _).mono ?_;rintro e w' ⟨rfl,rfl⟩)
  exact bodyPost_ret (v:=.agg #[.int .u64 H,.int .u64 L]) (by simp[results,Tryz.results16,go_sem]) rfl ⟨_,_,rfl,HR.out,br.alloc lr _⟩
theorem prod_bound{a b:Int}(ha: -9223372036854775808<=a/\a<=9223372036854775807)(hb: -9223372036854775808<=b/\b<=9223372036854775807):
  -85070591730234615856620279821087277056<=a*b/\a*b<=85070591730234615865843651857942052864:=by
 have up:∀x y:Nat,x<=9223372036854775808->y<=9223372036854775808->x*y<=85070591730234615865843651857942052864:=fun x y h1 h2=>Nat.le_trans (Nat.mul_le_mul h1 h2) (by decide)
 have lo:∀x y:Nat,x<=9223372036854775808->y<=9223372036854775807->x*y<=85070591730234615856620279821087277056:=fun x y h1 h2=>Nat.le_trans (Nat.mul_le_mul h1 h2) (by decide)
 by_cases h1:a<0 <;> by_cases h2:b<0
 ·have e:a*b=((a.natAbs*b.natAbs:Nat):Int):=by rw[Int.natCast_mul,show(a.natAbs:Int)= -a by omega,show(b.natAbs:Int)= -b by omega,Int.neg_mul_neg]
  have:=up a.natAbs b.natAbs (by omega) (by omega);generalize a.natAbs*b.natAbs=n at *;omega
 ·have e:a*b= -((a.natAbs*b.natAbs:Nat):Int):=by rw[Int.natCast_mul,show(a.natAbs:Int)= -a by omega,show(b.natAbs:Int)=b by omega,Int.neg_mul,Int.neg_neg]
  have:=lo a.natAbs b.natAbs (by omega) (by omega);generalize a.natAbs*b.natAbs=n at *;omega
 ·have e:a*b= -((b.natAbs*a.natAbs:Nat):Int):=by rw[Int.natCast_mul,show(a.natAbs:Int)=a by omega,show(b.natAbs:Int)= -b by omega,Int.neg_mul,Int.neg_neg,Int.mul_comm]
  have:=lo b.natAbs a.natAbs (by omega) (by omega);generalize b.natAbs*a.natAbs=n at *;omega
 ·have e:a*b=((a.natAbs*b.natAbs:Nat):Int):=by rw[Int.natCast_mul,show(a.natAbs:Int)=a by omega,show(b.natAbs:Int)=b by omega]
  have:=up a.natAbs b.natAbs (by omega) (by omega);generalize a.natAbs*b.natAbs=n at *;omega
theorem pair_kept{w w':World}{x y:Value}{t:TypeId}(hb:Below (w.alloc (.cells #[x,y] t)).heap.size (w.alloc (.cells #[x,y] t)) w'):
  w'.cell? ⟨w.heap.size,0,none⟩=some x/\w'.cell? ⟨w.heap.size,1,none⟩=some y/\w.heap.size<w'.heap.size:=by
 have hz:=hb.size;exact⟨cell_kept hb 0 _ rfl,cell_kept hb 1 _ rfl,by simp at hz;omega⟩
end
end Go.Proofs.YtpkoapmpknbgoaaGreat
