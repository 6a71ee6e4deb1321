/- Joined: WdP, Lex4, Lex5, Lex6, WdA, WdB, WdC, WdD, WdE, WdF: contracts and plain laws, each with its own heading below. -/
import Derived.Test.YtpkoapmpknbgoaaGreatPackBC
import Derived.Test.YtpkoapmpknbgoaaGreatProg
import Derived.Deep.CutRange
import Derived.Deep.CutBlock
import Derived.Deep.RegionWith
import Derived.BigRegion
import Derived.Shelf.Spec.BitsCarry
import Derived.WalkSmall
set_option maxRecDepth 100000
set_option maxHeartbeats 4000000
namespace Go.Proofs.YtpkoapmpknbgoaaGreat
section
abbrev E2:=Int×Int
end
end Go.Proofs.YtpkoapmpknbgoaaGreat
namespace Go.Proofs.YtpkoapmpknbgoaaGreat.Wd
section
def mulE(x y:E2):E2:=(x.1*y.1-x.2*y.2,x.1*y.2+x.2*y.1+x.2*y.2)
def addE(x y:E2):E2:=(x.1+y.1,x.2+y.2)
def subE(x y:E2):E2:=(x.1-y.1,x.2-y.2)
def unitE:Nat->E2
 |0=>(1,0)
 |1=>(0,1)
 |2=>(-1,1)
 |3=>(-1,0)
 |4=>(0,-1)
 |_=>(1,-1)
def leftE:Nat->E2
 |0=>(0,0)
 |k+1=>unitE k
def cornerE(s t d:Int):E2:=
 if 2*s+t<=d/\s+2*t<=d then(0,0)
 else if s+2*t≥d/\s<=t/\2*s+t<=2*d then(0,1)
 else if 2*s+t≥d/\s+2*t<=2*d/\t<=s then(1,0)
 else(1,1)
def roundE(u:E2)(d:Int):E2:=addE (u.1/d,u.2/d) (cornerE (u.1%d) (u.2%d) d)
def bestE(s t d:Int):E2:=
 let f1:=d-(s+2*t)
 let f2:=d-(2*s+t)
 let f3:=3*d-(2*s+t)-(s+2*t)
 let b1:Int×E2:=if f1<0 then(f1,(0,1))else(0,(0,0))
 let b2:Int×E2:=if f2<b1.1 then(f2,(1,0))else b1
 let b3:Int×E2:=if f3<b2.1 then(f3,(1,1))else b2
 b3.2
theorem best_corner{s t d:Int}(_hs:0<=s)(_hs1:s<d)(ht:0<=t)(_ht1:t<d):bestE s t d=cornerE s t d:=by
 unfold bestE cornerE;simp only;by_cases h1:d-(s+2*t)<0
 ·rw[if_pos h1]
  by_cases h2:d-(2*s+t)<d-(s+2*t)
  ·rw[if_pos h2]
   by_cases h3:3*d-(2*s+t)-(s+2*t)<d-(2*s+t)
   ·rw[if_pos h3]
    rw[if_neg (by omega),if_neg (by omega),if_neg (by omega)]
   ·rw[if_neg h3]
    rw[if_neg (by omega),if_neg (by omega),if_pos (by omega)]
  ·rw[if_neg h2]
   by_cases h3:3*d-(2*s+t)-(s+2*t)<d-(s+2*t)
   ·rw[if_pos h3]
    rw[if_neg (by omega),if_neg (by omega),if_neg (by omega)]
   ·rw[if_neg h3]
    rw[if_neg (by omega),if_pos (by omega)]
 ·rw[if_neg h1]
  by_cases h2:d-(2*s+t)<0
  ·rw[if_pos h2]
   by_cases h3:3*d-(2*s+t)-(s+2*t)<d-(2*s+t)
   ·rw[if_pos h3]
    rw[if_neg (by omega),if_neg (by omega),if_neg (by omega)]
   ·rw[if_neg h3]
    rw[if_neg (by omega),if_neg (by omega),if_pos (by omega)]
  ·rw[if_neg h2]
   by_cases h3:3*d-(2*s+t)-(s+2*t)<0
   ·omega
   ·rw[if_neg h3]
    rw[if_pos (by omega)]
def nearB(s t d:Int):Bool:=decide (-d<=2*s+t)&&decide (2*s+t<=d)&&decide (-d<=s+2*t)&&decide (s+2*t<=d)&&decide (-d<=s-t)&&decide (s-t<=d)
theorem near_first{s t d:Int}(hs:0<=s)(hs1:s<d)(ht:0<=t)(ht1:t<d)(i k:Int)(hi: -1<=i)(hi2:i<=2)(hk: -1<=k)(hk2:k<=2):
  ((i<(cornerE s t d).1∨(i=(cornerE s t d).1/\k<(cornerE s t d).2))->nearB (s-i*d) (t-k*d) d=false)/\((i,k)=cornerE s t d->nearB (s-i*d) (t-k*d) d=true):=by
 rcases(show i= -1∨i=0∨i=1∨i=2 by omega)with rfl|rfl|rfl|rfl <;> rcases(show k= -1∨k=0∨k=1∨k=2 by omega)with rfl|rfl|rfl|rfl <;>
  ·unfold cornerE nearB
   constructor
   ·intro h
    simp only[Bool.and_eq_false_iff,decide_eq_false_iff_not]
    split at h
    ·simp only at h;omega
    ·split at h
     ·simp only at h;omega
     ·split at h
      ·simp only at h;omega
      ·simp only at h;omega
   ·intro h
    simp only[Bool.and_eq_true,decide_eq_true_eq]
    split at h
    ·simp only[Prod.mk.injEq]at h;omega
    ·split at h
     ·simp only[Prod.mk.injEq]at h;omega
     ·split at h
      ·simp only[Prod.mk.injEq]at h;omega
      ·simp only[Prod.mk.injEq]at h;omega
def digE(z:E2):Nat:=
 if(z.1+5*z.2)%7=0 then 0 else if(z.1+5*z.2)%7=1 then 1 else if(z.1+5*z.2)%7=5 then 2 else if(z.1+5*z.2)%7=4 then 3 else if(z.1+5*z.2)%7=6 then 4 else if(z.1+5*z.2)%7=2 then 5 else 6
def upE(z:E2):E2:=((3*(z.1-(leftE (digE z)).1)+(z.2-(leftE (digE z)).2))/7,(2*(z.2-(leftE (digE z)).2)-(z.1-(leftE (digE z)).1))/7)
def downE(q:E2)(d:Nat):E2:=addE (mulE q (2,1)) (leftE d)
theorem downE_eq(q:E2)(d:Nat):downE q d=(2*q.1-q.2+(leftE d).1,q.1+3*q.2+(leftE d).2):=by
 unfold downE addE mulE;ext <;> simp only <;> omega
theorem left_cases{d:Nat}(h:d<7):(d=0/\leftE d=(0,0))∨(d=1/\leftE d=(1,0))∨(d=2/\leftE d=(0,1))∨(d=3/\leftE d=(-1,1))∨(d=4/\leftE d=(-1,0))∨(d=5/\leftE d=(0,-1))∨(d=6/\leftE d=(1,-1)):=by
 rcases(show d=0∨d=1∨d=2∨d=3∨d=4∨d=5∨d=6 by omega)with rfl|rfl|rfl|rfl|rfl|rfl|rfl <;> simp[leftE,unitE]
theorem digE_lt(z:E2):digE z<7:=by
 unfold digE
 repeat(split;· omega)
 omega
theorem digE_down(q:E2){d:Nat}(h:d<7):digE (downE q d)=d:=by
 rw[downE_eq];unfold digE;rcases left_cases h with⟨rfl,e⟩|⟨rfl,e⟩|⟨rfl,e⟩|⟨rfl,e⟩|⟨rfl,e⟩|⟨rfl,e⟩|⟨rfl,e⟩ <;> rw[e] <;> simp only
 ·rw[if_pos (by omega)]
 ·rw[if_neg (by omega),if_pos (by omega)]
 ·rw[if_neg (by omega),if_neg (by omega),if_pos (by omega)]
 ·rw[if_neg (by omega),if_neg (by omega),if_neg (by omega),if_pos (by omega)]
 ·rw[if_neg (by omega),if_neg (by omega),if_neg (by omega),if_neg (by omega),if_pos (by omega)]
 ·rw[if_neg (by omega),if_neg (by omega),if_neg (by omega),if_neg (by omega),if_neg (by omega),if_pos (by omega)]
 ·rw[if_neg (by omega),if_neg (by omega),if_neg (by omega),if_neg (by omega),if_neg (by omega),if_neg (by omega)]
theorem upE_down(q:E2){d:Nat}(h:d<7):upE (downE q d)=q:=by
 unfold upE;rw[digE_down q h,downE_eq];generalize leftE d=l;ext <;> simp only <;> omega
theorem down_up(z:E2):downE (upE z) (digE z)=z:=by
 rw[downE_eq];unfold upE;have hl:=left_cases (digE_lt z);have hd:digE z=if(z.1+5*z.2)%7=0 then 0 else if(z.1+5*z.2)%7=1 then 1 else if(z.1+5*z.2)%7=5 then 2 else if(z.1+5*z.2)%7=4 then 3 else if(z.1+5*z.2)%7=6 then 4 else if(z.1+5*z.2)%7=2 then 5 else 6:=rfl;generalize digE z=d at *;obtain⟨a,b⟩:=z;simp only at *;rcases hl with⟨rfl,e⟩|⟨rfl,e⟩|⟨rfl,e⟩|⟨rfl,e⟩|⟨rfl,e⟩|⟨rfl,e⟩|⟨rfl,e⟩ <;> rw[e] <;> ext <;> simp only <;> split at hd <;> (try omega) <;> split at hd <;> (try omega) <;> split at hd <;> (try omega) <;> split at hd <;> (try omega) <;> split at hd <;> (try omega) <;> split at hd <;> omega
theorem round_up(z:E2):roundE (mulE z (3,-1)) 7=upE z:=by
 have h:=down_up z;have hl:=left_cases (digE_lt z);generalize upE z=q at *;generalize digE z=d at *;rw[downE_eq]at h;subst h;unfold roundE mulE cornerE addE;rcases hl with⟨_,e⟩|⟨_,e⟩|⟨_,e⟩|⟨_,e⟩|⟨_,e⟩|⟨_,e⟩|⟨_,e⟩ <;> rw[e] <;> ext <;> simp only <;> (repeat' split) <;> simp only <;> omega
end
end Go.Proofs.YtpkoapmpknbgoaaGreat.Wd
namespace Go.Proofs.YtpkoapmpknbgoaaGreat
section
open Go
section
variable {P : Program} {ops : Array Oper}
def Leaves(a:Act)(dst:Option Tmp)(S:Value->World->Prop):Exit->Act->World->Prop
 | .normal,a',w'=>∃v,a'=a.put dst v/\S v w'
 |_,_,_=>False
theorem Leaves.lets{a:Act}{dst:Option Tmp}{S:Value->World->Prop}:¬LetsOut (Leaves a dst S):=fun⟨_,_,h⟩=>h
def stepV(P:Program)(ops:Array Oper)(o:Oper)(S:Value->World->Prop)(a:Act)(w:World):Prop:=
 if Region.wanted o (yielded ops a.tmps)=true then o.wp P a w (Leaves a o.dst S .normal) (Only fun _ _=>False)else Leaves a o.dst S .normal (a.put o.dst undef) w
theorem wp_leaves{o:Oper}{a b:Act}{dst:Option Tmp}{S:Value->World->Prop}{w:World}{next:Act->World->Prop}(h:o.wp P a w next (Leaves b dst S)):o.wp P a w next (Only fun _ _=>False):=by
 unfold Oper.wp at *;generalize(execOp a.eval o).run P w=r at *;cases r with
 |ok n w'=>
  cases n <;> simp only[Oper.upon]at h ⊢
  case enter f args=>
   refine Calls.mono h fun e w'' he=>?_
   cases e with
   |returned v=>exact he
   |panicked c=>exact he
   |outgrown=>exact(Leaves.lets he).elim
  all_goals exact h
 |halt x w'=>
  cases x <;> simp only[Oper.upon]at h ⊢
  case panic v=>exact h
theorem stepV_of_list{o:Oper}{S:Value->World->Prop}{a:Act}{w:World}(h:wpList P ops (Leaves a o.dst S) [o] a w):stepV P ops o S a w:=by
 simp only[wpList]at h;unfold stepV
 split
 ·rename_i hw
  rw[if_pos hw]at h;rcases h with h|⟨_,h⟩
  ·exact wp_leaves h
  ·exact(Leaves.lets h).elim
 ·rename_i hw
  rw[if_neg hw]at h;exact h
theorem put_defers'(a:Act)(dst:Option Tmp)(v:Value):(a.put dst v).defers=a.defers:=by cases dst <;> rfl
theorem put_eq{a c:Act}{dst:Option Tmp}{v u:Value}(h:c.put dst v=c.put dst u)(hs:a.tmps.size=c.tmps.size):a.put dst v=a.put dst u:=by
 cases dst with
 |none=>rfl
 |some d=>
  by_cases hd:d<c.tmps.size
  ·have h1:=congrArg (fun x:Act=>x.tmps[d]?) h
   simp[Act.put,hd]at h1;rw[h1]
  ·have hd':¬d<a.tmps.size:=by rw[hs];exact hd
   simp[Act.put,Array.setIfInBounds,hd']
theorem wanted_same{o:Oper}{a c:Act}(he:∀d∈o.looksAt ops,a.tmps[d]? =c.tmps[d]?):Region.wanted o (yielded ops a.tmps)=Region.wanted o (yielded ops c.tmps):=by
 unfold Region.wanted;cases hg:o.guard with
 |none=>rfl
 |some gw=>
  obtain⟨g,want⟩:=gw;have hy:yielded ops a.tmps g=yielded ops c.tmps g:=by
   unfold yielded;cases ht:(ops[g]?).bind (·.dst)with
   |none=>rfl
   |some t=>
    have:=he t (by simp[Oper.looksAt,hg,ht]);simp[this]
  simp only[hy]
theorem exec_same{o:Oper}{a c:Act}(hs:∀cs b,o.op≠ .select cs b)(he:∀d∈o.looksAt ops,a.tmps[d]? =c.tmps[d]?):execOp a.eval o=execOp c.eval o:=
 execOp_congr o hs fun x hx=>by
  cases x with
  |tmp t=>
   have:=he t (List.mem_append_left _ (List.mem_filterMap.2 ⟨.tmp t,by simpa using hx,rfl⟩));simp only[Act.eval,Array.getD_eq_getD_getElem?,this]
  |_=>rfl
theorem stepV_congr{o:Oper}{S:Value->World->Prop}{a c:Act}{w:World}(hs:∀cs b,o.op≠ .select cs b)(hz:a.tmps.size=c.tmps.size)(he:∀d∈o.looksAt ops,a.tmps[d]? =c.tmps[d]?)
  (h:stepV P ops o S c w):stepV P ops o S a w:=by
 have tr:∀v w',Leaves c o.dst S .normal (c.put o.dst v) w'->Leaves a o.dst S .normal (a.put o.dst v) w':=fun v w' ⟨u,e,hu⟩=>⟨u,put_eq e hz,hu⟩
 unfold stepV at *;rw[wanted_same he]
 split
 ·rename_i hw
  rw[if_pos hw]at h;unfold Oper.wp at *;rw[exec_same hs he];generalize(execOp c.eval o).run P w=r at *;cases r with
  |ok n w'=>
   cases n <;> simp only[Oper.upon]at h ⊢
   case value v=>exact tr _ _ h
   case skip=>exact tr _ _ h
   case defer d=>
    exfalso;obtain⟨u,e,_⟩:=h;have:=congrArg (fun x:Act=>x.defers.length) e;simp[put_defers']at this
   case enter f args=>
    refine Calls.mono h fun e w'' he=>?_
    cases e with
    |returned v=>exact tr _ _ he
    |panicked c=>exact he
    |outgrown=>exact he
   case row row args=>exact Rows.mono h fun u w'' he=>tr _ _ he
  |halt x w'=>
   cases x <;> simp only[Oper.upon]at h ⊢
   case panic v=>exact h
 ·rename_i hw
  rw[if_neg hw]at h;exact tr _ _ h
theorem stepV_wpOp{i:Nat}{o:Oper}(ho:ops[i]? =some o){S:Value->World->Prop}{a:Act}{w:World}{n K:Act->World->Prop}(hn:∀v w',S v w'->n (a.put o.dst v) w')(h:stepV P ops o S a w):wpOp P ops (Only K) i n a w:=by
 unfold Go.wpOp;simp only[ho];unfold stepV at h
 split
 ·rename_i hw
  rw[if_pos hw]at h;exact .inl (only_wp (Oper.wp_mono (fun a' w' ⟨v,e,hs⟩=>by rw[e];exact hn v w' hs) h))
 ·rename_i hw
  rw[if_neg hw]at h;obtain⟨v,e,hs⟩:=h;rw[e];exact hn v w hs
def fillD(D:Nat->Bool)(V:Nat->Value):List Oper->Nat->Act->Act
 |[],_,a=>a
 |o::r,i,a=>fillD D V r (i+1) (if D i then a.put o.dst (V i)else a)
theorem put_size(a:Act)(dst:Option Tmp)(v:Value):(a.put dst v).tmps.size=a.tmps.size:=by cases dst <;> simp[Act.put]
theorem fill_size(D:Nat->Bool)(V:Nat->Value):∀(l:List Oper) (i:Nat) (a:Act),(fillD D V l i a).tmps.size=a.tmps.size
 |[],_,_=>rfl
 |o::r,i,a=>by
  unfold fillD;rw[fill_size D V r]
  split
  ·exact put_size _ _ _
  ·rfl
theorem fill_none(D:Nat->Bool)(V:Nat->Value):∀(l:List Oper) (i:Nat) (a:Act),(∀ j,i<=j->D j=false)->fillD D V l i a=a
 |[],_,_,_=>rfl
 |o::r,i,a,h=>by
  unfold fillD;rw[h i lr,if_neg (by simp)];exact fill_none D V r _ _ fun j hj=>h j (by omega)
theorem fill_congr(D D':Nat->Bool)(V V':Nat->Value):∀(l:List Oper) (i:Nat) (a:Act),(∀ j,i<=j->j<i+l.length->D j=D' j/\(D j=true->V j=V' j))->fillD D V l i a=fillD D' V' l i a
 |[],_,_,_=>rfl
 |o::r,i,a,h=>by
  unfold fillD;obtain⟨h1,h2⟩:=h i lr (by simp);have e:(if D i=true then a.put o.dst (V i)else a)=if D' i=true then a.put o.dst (V' i)else a:=by
   rw[<- h1]
   split
   ·rename_i hd;rw[h2 hd]
   ·rfl
  rw[e];exact fill_congr D D' V V' r _ _ fun j hj hl=>h j (by omega) (by simp;omega)
theorem fill_at(D D':Nat->Bool)(V:Nat->Value)(s:Nat):∀(l:List Oper) (i:Nat) (a b:Act),a.tmps.size=b.tmps.size->a.tmps[s]? =b.tmps[s]? ->
  (∀ j o,l[j]? =some o->o.dst=some s->D (i+j)=D' (i+j))->(fillD D V l i a).tmps[s]? =(fillD D' V l i b).tmps[s]?
 |[],_,_,_,_,h,_=>h
 |o::r,i,a,b,hz,h,hd=>by
  unfold fillD;refine fill_at D D' V s r _ _ _ ?_ ?_ fun j o' hj ho=>by
   have:=hd (j+1) o' (by simpa using hj) ho;rw[show i+1+j=i+(j+1)from by omega];exact this
  ·split <;> split <;> simp[put_size,hz]
  ·by_cases hs:o.dst=some s
   ·have e:=hd 0 o rfl hs
    rw[Nat.add_zero]at e;rw[<- e]
    split
    ·rw[hs]
     by_cases hlt:s<a.tmps.size
     ·have:s<b.tmps.size:=by omega
      simp[Act.put,hlt,this]
     ·have:¬s<b.tmps.size:=by omega
      simp[Act.put,Array.setIfInBounds,hlt,this]
    ·exact h
   ·have keep:∀(a:Act) (v:Value),(a.put o.dst v).tmps[s]? =a.tmps[s]? :=fun a v=>by
     cases ho:o.dst with
     |none=>rfl
     |some d=>
      have hne:d≠s:=fun e=>hs (by rw[ho,e])
      simp[Act.put,Array.getElem?_setIfInBounds_ne hne]
    split <;> split <;> simp[keep,h]
theorem fill_put(D:Nat->Bool)(V:Nat->Value)(dst:Option Tmp)(v:Value):∀(l:List Oper) (i:Nat) (a:Act),(∀ o∈l,∀d,dst=some d->o.dst≠some d)->
  (fillD D V l i a).put dst v=fillD D V l i (a.put dst v)
 |[],_,_,_=>rfl
 |o::r,i,a,h=>by
  unfold fillD;rw[fill_put D V dst v r _ _ fun o' ho=>h o' (by simp[ho])];congr 1
  split
  ·exact Act.put_comm _ _ _ fun d hd he=>h o (by simp) d he hd
  ·rfl
theorem fill_take(D:Nat->Bool)(V:Nat->Value)(v:Value):∀(l:List Oper) (i:Nat) (a:Act) (k:Nat) (o:Oper),l[k]? =some o->D (i+k)=false->
  (∀ q o',l[q]? =some o'->q≠k->∀d,o.dst=some d->o'.dst≠some d)->
  (fillD D V l i a).put o.dst v=fillD (fun j=>if j=i+k then true else D j) (fun j=>if j=i+k then v else V j) l i a
 |[],_,_,_,_,h,_,_=>by simp at h
 |x::r,i,a,0,o,h,hD,hd=>by
  obtain rfl:x=o:=by simpa using h
  rw[Nat.add_zero]at hD ⊢;unfold fillD;rw[hD,if_neg (by simp),fill_put D V _ _ r _ _ fun o' ho d hd1=>by
   obtain⟨q,hq⟩:=List.mem_iff_getElem?.1 ho;exact hd (q+1) o' (by simpa using hq) (by omega) d hd1]
  simp only[if_true];exact fill_congr _ _ _ _ r _ _ fun j hj _=>by
   rw[if_neg (by omega),if_neg (by omega)];exact⟨rfl,fun _=>rfl⟩
 |x::r,i,a,k+1,o,h,hD,hd=>by
  unfold fillD;rw[fill_take D V v r (i+1) _ k o (by simpa using h) (by rw[show i+1+k=i+(k+1)from by omega];exact hD) fun q o' hq hne d hd1=>hd (q+1) o' (by simpa using hq) (by omega) d hd1];rw[show i+1+k=i+(k+1)from by omega];congr 1;rw[if_neg (show ¬i=i+(k+1) by omega),if_neg (show ¬i=i+(k+1) by omega)]
def needs(o:Oper)(j:Nat):Bool:=o.after.toList.any fun e=>Region.binds .any e&&e.on==j
def invList(P:Program)(ops:Array Oper)(G:World->World->Prop)(w0:World)(R:Nat->Value->World->Prop)(K:Act->World->Prop):List Oper->List Value->Act->Prop
 |[],vs,a=>∀w,G w0 w->(∀ j,j<vs.length->R j (vs.getD j undef) w)->K a w
 |o::r,vs,a=>(∀ w,G w0 w->(∀ j,j<vs.length->needs o j=true->R j (vs.getD j undef) w)->wpList P ops (Leaves a o.dst fun v w'=>G w w'/\R vs.length v w') [o] a w)/\
  ∀v,invList P ops G w0 R K r (vs++[v]) (a.put o.dst v)
theorem range_snoc(V:Nat->Value)(m:Nat):(List.range m).map V++[V m]=(List.range (m+1)).map V:=by rw[List.range_succ];simp
theorem range_get(V:Nat->Value){m j:Nat}(h:j<m):((List.range m).map V).getD j undef=V j:=by simp[List.getD_eq_getElem?_getD,h]
theorem inv_at{G:World->World->Prop}{w0:World}{R:Nat->Value->World->Prop}{K:Act->World->Prop}(V:Nat->Value):∀(r:List Oper) (m:Nat) (a:Act),invList P ops G w0 R K r ((List.range m).map V) a->
  (∀ k o,r[k]? =some o->∀w,G w0 w->(∀ j,j<m+k->needs o j=true->R j (V j) w)->
   wpList P ops (Leaves (fillD (fun j=>decide (j<m+k)) V r m a) o.dst fun v w'=>G w w'/\R (m+k) v w') [o] (fillD (fun j=>decide (j<m+k)) V r m a) w)/\
  (∀ w,G w0 w->(∀ j,j<m+r.length->R j (V j) w)->K (fillD (fun _=>true) V r m a) w)
 |[],m,a,h=>⟨fun k o hk=>by simp at hk,fun w hg hr=>h w hg fun j hj=>by
   have hj':j<m:=by simpa using hj
   rw[range_get V hj'];exact hr j (by simpa using hj')⟩
 |o::r,m,a,h=>by
  obtain⟨h1,h2⟩:=h;have h3:=h2 (V m);rw[range_snoc]at h3;obtain⟨i1,i2⟩:=inv_at V r (m+1) _ h3;refine⟨fun k o' hk w hg hr=>?_,fun w hg hr=>?_⟩
  ·cases k with
   |zero=>
    obtain rfl:o=o':=by simpa using hk
    rw[Nat.add_zero]at hr ⊢;rw[fill_none _ _ _ _ _ fun j hj=>by simp;omega];have:=h1 w hg fun j hj hn=>by
     have hj':j<m:=by simpa using hj
     rw[range_get V hj'];exact hr j hj' hn
    simpa using this
   |succ k=>
    have:=i1 k o' (by simpa using hk) w hg fun j hj hn=>hr j (by omega) hn
    rw[show m+1+k=m+(k+1)from by omega]at this;have e:fillD (fun j=>decide (j<m+(k+1))) V (o::r) m a=fillD (fun j=>decide (j<m+(k+1))) V r (m+1) (a.put o.dst (V m)):=by
     show fillD _ V r (m+1) _=_;rw[if_pos (by simp)]
    rw[e];exact this
  ·have:=i2 w hg fun j hj=>hr j (by simp;omega)
   exact this
def invB(ops:Array Oper):Bool:=
 Region.noSelect ops&&(List.range ops.size).all fun i=>match ops[i]? with
  |none=>true
  |some oi=>
   (oi.after.toList.all fun e=> !Region.binds .any e||decide (e.on<i))&&
   (List.range ops.size).all fun q=>q==i||match(ops[q]?).bind (·.dst)with
    |none=>true
    |some d=>oi.dst != some d&&(!(oi.looksAt ops).contains d||(decide (q<i)&&needs oi q)||(decide (i<q)&&((waits ops.toList []).getD q 0).testBit i))
theorem rem_nil(hback:∀i oi,ops[i]? =some oi->∀e∈oi.after,Region.binds .any e=true->e.on<i)(listed:Array Bool)(hs:listed.size=ops.size)(hr:Region.ready .any ops listed=[]):∀i,i<ops.size->listed.getD i false=true:=by
 intro i
 induction i using Nat.strongRecOn with
 |_ i ih=>
  intro hi;by_cases hd:listed.getD i false=true
  ·exact hd
  ·exfalso
   have:i∈Region.ready .any ops listed:=mem_ready.2 ⟨by
    have:i<listed.size:=by omega
    simp[this]at hd ⊢;exact hd,_,Array.getElem?_eq_getElem hi,fun e he hb=>by
     have hlt:=hback i _ (Array.getElem?_eq_getElem hi) e he hb;exact ih e.on hlt (by omega)⟩
   rw[hr]at this;cases this
theorem inv_any{l:List Oper}{G:World->World->Prop}{w0:World}{R:Nat->Value->World->Prop}{K:Act->World->Prop}{a0:Act}(hB:invB l.toArray=true)
  (Gt:∀w w1 w2,G w w1->G w1 w2->G w w2) (mono:∀i v w w',G w0 w->G w w'->R i v w->R i v w')
  (h:invList P l.toArray G w0 R K l [] a0):
  ∀(fuel:Nat) (listed:Array Bool) (V:Nat->Value) (w:World),listed.size=l.length->Closed l.toArray listed->G w0 w->(∀ j,listed.getD j false=true->R j (V j) w)->
  (rem l.toArray listed).length<=fuel->wpAny P .any l.toArray (Only K) fuel listed (fillD (fun j=>listed.getD j false) V l 0 a0) w:=by
 unfold invB at hB;simp only[Bool.and_eq_true,List.all_eq_true,List.mem_range]at hB;obtain⟨hsel,hB⟩:=hB;have hB':∀i oi,l.toArray[i]? =some oi->_:=fun i oi hi=>by
  have:=hB i (Array.getElem?_eq_some_iff.1 hi).1;simp only[hi,Bool.and_eq_true,List.all_eq_true,List.mem_range]at this;exact this
 have hback:∀i oi,l.toArray[i]? =some oi->∀e∈oi.after,Region.binds .any e=true->e.on<i:=fun i oi hi e he hb=>by
  have:=(hB' i oi hi).1 e (by simpa using he);simpa[hb]using this
 have htr:Truth l.toArray (waits l.toArray.toList []):=waits_truth hback l.toArray.toList [] (fun j=>by simp) (fun i t hi=>by simp at hi);have hlen:(waits l.toArray.toList []).length=l.length:=by rw[waits_length];simp
 have hall:∀listed:Array Bool,listed.size=l.length->Region.ready .any l.toArray listed=[]->∀i,i<l.length->listed.getD i false=true:=fun listed hs hr i hi=>
  rem_nil hback listed (by simpa using hs) hr i (by simpa using hi)
 have hend:∀(listed:Array Bool) (V:Nat->Value) (w:World),(∀ i,i<l.length->listed.getD i false=true)->G w0 w->(∀ j,listed.getD j false=true->R j (V j) w)->
   K (fillD (fun j=>listed.getD j false) V l 0 a0) w:=fun listed V w hd hg hr=>by
  have:=(inv_at V l 0 a0 h).2 w hg fun j hj=>hr j (hd j (by simpa using hj))
  rw[fill_congr _ (fun _=>true) V V l 0 a0 fun j _ hj=>⟨hd j (by simpa using hj),fun _=>rfl⟩];exact this
 intro fuel
 induction fuel with
 |zero=>
  intro listed V w hs hcl hg hr hf;have hnil:rem l.toArray listed=[]:=List.eq_nil_of_length_eq_zero (by omega);have hd:∀i,i<l.length->listed.getD i false=true:=fun i hi=>by
   by_cases hd:listed.getD i false=true
   ·exact hd
   ·exfalso
    have:i∈rem l.toArray listed:=mem_rem.2 ⟨by simpa using hi,by
     have:i<listed.size:=by omega
     simp[this]at hd ⊢;exact hd⟩
    rw[hnil]at this;cases this
  refine⟨?_,hend listed V w hd hg hr⟩;cases hrd:Region.ready .any l.toArray listed with
  |nil=>rfl
  |cons i q=>
   have hi:i∈Region.ready .any l.toArray listed:=by rw[hrd];simp
   obtain⟨hun,o,ho,_⟩:=mem_ready.1 hi;have:i∈rem l.toArray listed:=mem_rem.2 ⟨(Array.getElem?_eq_some_iff.1 ho).1,hun⟩;rw[hnil]at this;cases this
 |succ fuel ih=>
  intro listed V w hs hcl hg hr hf;refine⟨fun hrd=>hend listed V w (hall listed hs hrd) hg hr,fun i hi=>?_⟩;obtain⟨hun,o,ho,hdone⟩:=mem_ready.1 hi;have hlt:i<l.toArray.size:=(Array.getElem?_eq_some_iff.1 ho).1;have hltl:i<l.length:=by simpa using hlt
  have hlis:i<listed.size:=by omega
  have hun':listed.getD i false=false:=by simp[hlis]at hun ⊢;exact hun
  have hol:l[i]? =some o:=by simpa using ho
  have hst:=(inv_at V l 0 a0 h).1 i o hol w hg fun j hj hn=>by
   refine hr j ?_;unfold needs at hn;simp only[List.any_eq_true,Bool.and_eq_true,beq_iff_eq]at hn;obtain⟨e,he,hb,rfl⟩:=hn;exact hdone e (by simpa using he) hb
  rw[Nat.zero_add]at hst;have hsel':∀cs b,o.op≠ .select cs b:=by
   intro cs b hc;unfold Region.noSelect at hsel;simp only[Array.all_eq_true]at hsel;have:=hsel i (by simpa using hlt);rw[(Array.getElem?_eq_some_iff.1 ho).2]at this;rw[hc]at this;simp at this
  have hsv:=stepV_congr (a:=fillD (fun j=>listed.getD j false) V l 0 a0) hsel' (by rw[fill_size,fill_size]) (fun d hd=>?_) (stepV_of_list hst)
  ·refine stepV_wpOp ho ?_ hsv
   rintro v w' ⟨hgw,hR⟩;rw[fill_take (fun j=>listed.getD j false) V v l 0 a0 i o hol (by rw[Nat.zero_add];exact hun') fun q o' hq hne d hd1 hd2=>by
    have h1:=(hB' i o ho).2 q (by have:=(List.getElem?_eq_some_iff.1 hq).1;simpa using this);have hq':l.toArray[q]? =some o':=by simpa using hq
    simp[hne,hq',hd2,hd1]at h1]
   have hcl':=hcl.set hi;have e:(fun j=>if j=0+i then true else listed.getD j false)=fun j=>(listed.setIfInBounds i true).getD j false:=by
    funext j
    rw[Nat.zero_add];by_cases hj:j=i
    ·subst hj;simp[hlis]
    ·rw[if_neg hj,getD_set_ne false (fun e=>hj e.symm)]
   rw[e];refine ih _ _ w' (by simpa using hs) hcl' (Gt _ _ _ hg hgw) (fun j hj=>?_) ?_
   ·rw[Nat.zero_add]
    by_cases hji:j=i
    ·subst hji;rw[if_pos rfl];exact hR
    ·rw[if_neg hji]
     rw[getD_set_ne false (fun e=>hji e.symm)]at hj;exact mono j _ w w' hg hgw (hr j hj)
   ·obtain⟨τ,ρ,e1,e2,_⟩:=rem_split (by simpa using hs) (mem_rem.2 ⟨hlt,hun⟩)
    rw[e2];rw[e1]at hf;simp only[List.length_append,List.length_cons]at hf ⊢;omega
  ·refine fill_at _ _ V d l 0 a0 a0 rfl rfl fun q o' hq hod=>?_
   rw[Nat.zero_add];have hq':l.toArray[q]? =some o':=by simpa using hq
   have hql:q<l.length:=(List.getElem?_eq_some_iff.1 hq).1;by_cases hqi:q=i
   ·subst hqi;rw[hun'];simp
   ·have h1:=(hB' i o ho).2 q (by simpa using hql)
    have hdc:(o.looksAt l.toArray).contains d=true:=by simpa using hd
    simp only[hqi,beq_iff_eq,hq',Option.bind_some,hod,hdc,Bool.not_true,Bool.false_or,Bool.or_eq_true,Bool.and_eq_true,decide_eq_true_eq,false_or]at h1;rcases h1.2 with⟨h2,h3⟩|⟨h2,h3⟩
    ·rw[decide_eq_true h2]
     unfold needs at h3;simp only[List.any_eq_true,Bool.and_eq_true,beq_iff_eq]at h3;obtain⟨e,he,hb,rfl⟩:=h3;exact hdone e (by simpa using he) hb
    ·rw[decide_eq_false (by omega)]
     by_cases hqd:listed.getD q false=true
     ·exfalso
      have:=htr.listed hcl q o' i (by omega) hq' (fun e he hb=>hcl q o' hq' hqd e he hb) h3;rw[hun']at this;cases this
     ·simpa using hqd
theorem wp_region_inv{id:Nat}{l:List Oper}{Q:Exit->Act->World->Prop}{a:Act}{w:World}(G:World->World->Prop)(R:Nat->Value->World->Prop)(hm:P.follows .mixedOrders=true)(hB:invB l.toArray=true)
  (Gr:∀w,G w w) (Gt:∀w w1 w2,G w w1->G w1 w2->G w w2) (mono:∀i v w1 w2,G w.drew w1->G w1 w2->R i v w1->R i v w2)
  (h:invList P l.toArray G w.drew R (Q .normal) l [] a):(Code.region id l.toArray true).wp P Q a w:=by
 refine Code.wp_mono (Q:=Only (Q .normal)) (fun e a w hq=>by cases e <;> first|exact hq|exact hq.elim) ?_;refine wp_region_any hm ?_;have h0:=inv_any hB Gt mono h l.toArray.size (Array.replicate l.toArray.size false) (fun _=>undef) w.drew (by simp) (fun j oj _ hl=>by rw[getD_replicate0]at hl;cases hl) (Gr _) (fun j hj=>by rw[getD_replicate0]at hj;cases hj) ?_
 ·rw[fill_none]at h0
  ·exact h0
  ·intro j _;exact getD_replicate0 _ _
 ·refine Nat.le_trans (List.length_filter_le _ _) ?_
  simp
end
variable {P : Program} {ops : Array Oper} {G : World -> World -> Prop} {w0 : World} {R : Nat -> Value -> World -> Prop} {K : Act -> World -> Prop}
theorem inv_cons{o:Oper}{r:List Oper}{vs:List Value}{a:Act}
 (h1:∀w,G w0 w->(∀ j,j<vs.length->needs o j=true->R j (vs.getD j undef) w)->wpList P ops (Leaves a o.dst fun v w'=>G w w'/\R vs.length v w') [o] a w)
 (h2:∀v,invList P ops G w0 R K r (vs++[v]) (a.put o.dst v)):invList P ops G w0 R K (o::r) vs a:=⟨h1,h2⟩
theorem inv_done{vs:List Value}{a:Act}(h:∀w,G w0 w->(∀ j,j<vs.length->R j (vs.getD j undef) w)->K a w):invList P ops G w0 R K [] vs a:=h
theorem gk{o:Oper}{vs L:List Value}(j:Nat)(H:∀ j,j<vs.length->needs o j=true->vs.getD j undef=L.getD j undef)(h:needs o j=true){x y:Value}(hx:vs[j]?=some x)(hy:L[j]?=some y):x=y:=by
 have e:=H j (List.getElem?_eq_some_iff.1 hx).1 h
 rwa[List.getD_eq_getElem?_getD,List.getD_eq_getElem?_getD,hx,hy]at e
theorem gl{vs L:List Value}(H:∀ j,j<vs.length->vs.getD j undef=L.getD j undef)(h:vs.length=L.length):vs=L:=by
 refine List.ext_getElem h fun j h1 h2=>?_
 have e:=H j h1
 rwa[List.getD_eq_getElem?_getD,List.getD_eq_getElem?_getD,List.getElem?_eq_getElem h1,List.getElem?_eq_getElem h2]at e
end
section
open Go Go.RowKit
section
variable {P : Program} {ops : Array Oper}
def uses(o:Oper)(j:Nat):Bool:=o.after.toList.any fun e=>Region.binds .any e&&e.on==j&&(match e.ground with| .data=>true| .guard=>true|_=>false)
theorem uses_needs{o:Oper}{j:Nat}(h:uses o j=true):needs o j=true:=by
 unfold uses at h;unfold needs;rw[List.any_eq_true]at h ⊢;obtain⟨e,he,h⟩:=h;rw[Bool.and_eq_true]at h;exact⟨e,he,h.1⟩
def invList2(P:Program)(ops:Array Oper)(G:World->World->Prop)(T:Nat->World->World->Prop)(alive:Nat->Bool)(w0:World)(R:Nat->Value->World->Prop)(K:Act->World->Prop):List Oper->List Value->Act->Prop
 |[],vs,a=>∀w,G w0 w->(∀ j,j<vs.length->alive j=true->R j (vs.getD j undef) w)->K a w
 |o::r,vs,a=>(∀ w,G w0 w->(∀ j,j<vs.length->uses o j=true->R j (vs.getD j undef) w)->wpList P ops (Leaves a o.dst fun v w'=>T vs.length w w'/\R vs.length v w') [o] a w)/\
  ∀v,invList2 P ops G T alive w0 R K r (vs++[v]) (a.put o.dst v)
theorem inv2_at{G:World->World->Prop}{T:Nat->World->World->Prop}{alive:Nat->Bool}{w0:World}{R:Nat->Value->World->Prop}{K:Act->World->Prop}(V:Nat->Value):∀(r:List Oper) (m:Nat) (a:Act),invList2 P ops G T alive w0 R K r ((List.range m).map V) a->
  (∀ k o,r[k]? =some o->∀w,G w0 w->(∀ j,j<m+k->uses o j=true->R j (V j) w)->
   wpList P ops (Leaves (fillD (fun j=>decide (j<m+k)) V r m a) o.dst fun v w'=>T (m+k) w w'/\R (m+k) v w') [o] (fillD (fun j=>decide (j<m+k)) V r m a) w)/\
  (∀ w,G w0 w->(∀ j,j<m+r.length->alive j=true->R j (V j) w)->K (fillD (fun _=>true) V r m a) w)
 |[],m,a,h=>⟨fun k o hk=>by simp at hk,fun w hg hr=>h w hg fun j hj hl=>by
   have hj':j<m:=by simpa using hj
   rw[range_get V hj'];exact hr j (by simpa using hj') hl⟩
 |o::r,m,a,h=>by
  obtain⟨h1,h2⟩:=h;have h3:=h2 (V m);rw[range_snoc]at h3;obtain⟨i1,i2⟩:=inv2_at V r (m+1) _ h3;refine⟨fun k o' hk w hg hr=>?_,fun w hg hr=>?_⟩
  ·cases k with
   |zero=>
    obtain rfl:o=o':=by simpa using hk
    rw[Nat.add_zero]at hr ⊢;rw[fill_none _ _ _ _ _ fun j hj=>by simp;omega];have:=h1 w hg fun j hj hn=>by
     have hj':j<m:=by simpa using hj
     rw[range_get V hj'];exact hr j hj' hn
    simpa using this
   |succ k=>
    have:=i1 k o' (by simpa using hk) w hg fun j hj hn=>hr j (by omega) hn
    rw[show m+1+k=m+(k+1)from by omega]at this;have e:fillD (fun j=>decide (j<m+(k+1))) V (o::r) m a=fillD (fun j=>decide (j<m+(k+1))) V r (m+1) (a.put o.dst (V m)):=by
     show fillD _ V r (m+1) _=_;rw[if_pos (by simp)]
    rw[e];exact this
  ·have:=i2 w hg fun j hj hl=>hr j (by simp;omega) hl
   exact this
def barB(ops:Array Oper)(st bar:Nat->Bool):Bool:=
 (List.range ops.size).all fun i=> !bar i||(List.range ops.size).all fun j=>
  (j==i||((waits ops.toList []).getD i 0).testBit j||((waits ops.toList []).getD j 0).testBit i||st j)&&
  (st j|| !((waits ops.toList []).getD i 0).testBit j||(List.range ops.size).all fun k=>match ops[k]? with
   |none=>true
   |some ok=> !uses ok j||k==i||((waits ops.toList []).getD i 0).testBit k)
def aliveB(ops:Array Oper)(st bar:Nat->Bool)(j:Nat):Bool:=st j||(List.range ops.size).all fun i=> !bar i|| !((waits ops.toList []).getD i 0).testBit j
theorem inv2_any{l:List Oper}{G:World->World->Prop}{T:Nat->World->World->Prop}{w0:World}{R:Nat->Value->World->Prop}{K:Act->World->Prop}{a0:Act}{st bar:Nat->Bool}(hB:invB l.toArray=true)(hK:barB l.toArray st bar=true)
  (Gt:∀w w1 w2,G w w1->G w1 w2->G w w2) (TG:∀i w w',G w0 w->T i w w'->G w w') (mono:∀i j v w w',bar i=false->G w0 w->T i w w'->R j v w->R j v w')
  (monoS:∀j v w w',st j=true->G w0 w->G w w'->R j v w->R j v w')
  (h:invList2 P l.toArray G T (aliveB l.toArray st bar) w0 R K l [] a0):
  ∀(fuel:Nat) (listed:Array Bool) (V:Nat->Value) (w:World),listed.size=l.length->Closed l.toArray listed->G w0 w->
  (∀ j,listed.getD j false=true->(∀ i,bar i=true->listed.getD i false=true->((waits l.toArray.toList []).getD i 0).testBit j=true->st j=true)->R j (V j) w)->
  (rem l.toArray listed).length<=fuel->wpAny P .any l.toArray (Only K) fuel listed (fillD (fun j=>listed.getD j false) V l 0 a0) w:=by
 unfold invB at hB;simp only[Bool.and_eq_true,List.all_eq_true,List.mem_range]at hB;obtain⟨hsel,hB⟩:=hB;have hB':∀i oi,l.toArray[i]? =some oi->_:=fun i oi hi=>by
  have:=hB i (Array.getElem?_eq_some_iff.1 hi).1;simp only[hi,Bool.and_eq_true,List.all_eq_true,List.mem_range]at this;exact this
 have hback:∀i oi,l.toArray[i]? =some oi->∀e∈oi.after,Region.binds .any e=true->e.on<i:=fun i oi hi e he hb=>by
  have:=(hB' i oi hi).1 e (by simpa using he);simpa[hb]using this
 have htr:Truth l.toArray (waits l.toArray.toList []):=waits_truth hback l.toArray.toList [] (fun j=>by simp) (fun i t hi=>by simp at hi);have hlen:(waits l.toArray.toList []).length=l.length:=by rw[waits_length];simp
 have hanc:∀listed:Array Bool,Closed l.toArray listed->∀i t,i<l.length->listed.getD i false=true->((waits l.toArray.toList []).getD i 0).testBit t=true->listed.getD t false=true:=fun listed hcl i t hi hli hb=>by
  have hlt:i<l.toArray.size:=by simpa using hi
  exact htr.listed hcl i _ t (by rw[hlen];exact hi) (Array.getElem?_eq_getElem hlt) (hcl i _ (Array.getElem?_eq_getElem hlt) hli) hb
 unfold barB at hK;simp only[List.all_eq_true,List.mem_range]at hK;have hK1:∀i,i<l.length->bar i=true->∀j,j<l.length->j=i∨((waits l.toArray.toList []).getD i 0).testBit j=true∨((waits l.toArray.toList []).getD j 0).testBit i=true∨st j=true:=fun i hi hb j hj=>by
  have:=hK i (by simpa using hi);rw[hb,Bool.not_true,Bool.false_or,List.all_eq_true]at this;have:=this j (List.mem_range.2 (by simpa using hj));simp only[Bool.and_eq_true,Bool.or_eq_true,beq_iff_eq]at this;rcases this.1 with((h|h)|h)|h
  ·exact .inl h
  ·exact .inr (.inl h)
  ·exact .inr (.inr (.inl h))
  ·exact .inr (.inr (.inr h))
 have hK2:∀i,i<l.length->bar i=true->∀j,j<l.length->((waits l.toArray.toList []).getD i 0).testBit j=true->st j=false->∀k o,l.toArray[k]? =some o->uses o j=true->k=i∨((waits l.toArray.toList []).getD i 0).testBit k=true:=fun i hi hb j hj ht hs k o hk hn=>by
  have:=hK i (by simpa using hi);rw[hb,Bool.not_true,Bool.false_or,List.all_eq_true]at this;have:=this j (List.mem_range.2 (by simpa using hj));simp only[Bool.and_eq_true,Bool.or_eq_true,hs,ht,Bool.not_true,List.all_eq_true]at this;have h3:=this.2;simp at h3;have hkl:k<l.length:=by have:=(Array.getElem?_eq_some_iff.1 hk).1;simpa using this
  have h4:=h3 k hkl;have hk':l[k]? =some o:=by simpa using hk
  simp[hk',hn]at h4;rcases h4 with h|h
  ·exact .inl h
  ·exact .inr h
 have hall:∀listed:Array Bool,listed.size=l.length->Region.ready .any l.toArray listed=[]->∀i,i<l.length->listed.getD i false=true:=fun listed hs hr i hi=>
  rem_nil hback listed (by simpa using hs) hr i (by simpa using hi)
 have hend:∀(listed:Array Bool) (V:Nat->Value) (w:World),(∀ i,i<l.length->listed.getD i false=true)->G w0 w->(∀ j,listed.getD j false=true->(∀ i,bar i=true->listed.getD i false=true->((waits l.toArray.toList []).getD i 0).testBit j=true->st j=true)->R j (V j) w)->
   listed.size=l.length->K (fillD (fun j=>listed.getD j false) V l 0 a0) w:=fun listed V w hd hg hr hsz=>by
  have:=(inv2_at V l 0 a0 h).2 w hg fun j hj hl=>hr j (hd j (by simpa using hj)) fun i hb hi ht=>by
   unfold aliveB at hl;rw[Bool.or_eq_true]at hl;rcases hl with hl|hl
   ·exact hl
   ·rw[List.all_eq_true]at hl
    have hil:i<l.length:=by
     rcases Nat.lt_or_ge i listed.size with h|h
     ·omega
     ·simp[Nat.not_lt.2 h]at hi
    have:=hl i (List.mem_range.2 (by simpa using hil));rw[hb,ht]at this;simp at this
  rw[fill_congr _ (fun _=>true) V V l 0 a0 fun j _ hj=>⟨hd j (by simpa using hj),fun _=>rfl⟩];exact this
 intro fuel
 induction fuel with
 |zero=>
  intro listed V w hs hcl hg hr hf;have hnil:rem l.toArray listed=[]:=List.eq_nil_of_length_eq_zero (by omega);have hd:∀i,i<l.length->listed.getD i false=true:=fun i hi=>by
   by_cases hd:listed.getD i false=true
   ·exact hd
   ·exfalso
    have:i∈rem l.toArray listed:=mem_rem.2 ⟨by simpa using hi,by
     have:i<listed.size:=by omega
     simp[this]at hd ⊢;exact hd⟩
    rw[hnil]at this;cases this
  refine⟨?_,hend listed V w hd hg hr hs⟩;cases hrd:Region.ready .any l.toArray listed with
  |nil=>rfl
  |cons i q=>
   have hi:i∈Region.ready .any l.toArray listed:=by rw[hrd];simp
   obtain⟨hun,o,ho,_⟩:=mem_ready.1 hi;have:i∈rem l.toArray listed:=mem_rem.2 ⟨(Array.getElem?_eq_some_iff.1 ho).1,hun⟩;rw[hnil]at this;cases this
 |succ fuel ih=>
  intro listed V w hs hcl hg hr hf;refine⟨fun hrd=>hend listed V w (hall listed hs hrd) hg hr hs,fun i hi=>?_⟩;obtain⟨hun,o,ho,hdone⟩:=mem_ready.1 hi;have hlt:i<l.toArray.size:=(Array.getElem?_eq_some_iff.1 ho).1;have hltl:i<l.length:=by simpa using hlt
  have hlis:i<listed.size:=by omega
  have hun':listed.getD i false=false:=by simp[hlis]at hun ⊢;exact hun
  have hol:l[i]? =some o:=by simpa using ho
  have hin:∀q,listed.getD q false=true->q<l.length:=fun q hq=>by
   rcases Nat.lt_or_ge q listed.size with h|h
   ·omega
   ·simp[Nat.not_lt.2 h]at hq
  have hst:=(inv2_at V l 0 a0 h).1 i o hol w hg fun j hj hn=>by
   have hdj:listed.getD j false=true:=by
    have hn':=uses_needs hn;unfold needs at hn';simp only[List.any_eq_true,Bool.and_eq_true,beq_iff_eq]at hn';obtain⟨e,he,hb,rfl⟩:=hn';exact hdone e (by simpa using he) hb
   refine hr j hdj fun i' hb' hl' ht'=>?_
   cases hsj:st j with
   |true=>rfl
   |false=>
    exfalso;rcases hK2 i' (hin i' hl') hb' j (hin j hdj) ht' hsj i o ho hn with h|h
    ·rw[<- h,hun']at hl';cases hl'
    ·have:=hanc listed hcl i' i (hin i' hl') hl' h
     rw[hun']at this;cases this
  rw[Nat.zero_add]at hst;have hsel':∀cs b,o.op≠ .select cs b:=by
   intro cs b hc;unfold Region.noSelect at hsel;simp only[Array.all_eq_true]at hsel;have:=hsel i (by simpa using hlt);rw[(Array.getElem?_eq_some_iff.1 ho).2]at this;rw[hc]at this;simp at this
  have hsv:=stepV_congr (a:=fillD (fun j=>listed.getD j false) V l 0 a0) hsel' (by rw[fill_size,fill_size]) (fun d hd=>?_) (stepV_of_list hst)
  ·refine stepV_wpOp ho ?_ hsv
   rintro v w' ⟨hgw,hR⟩;rw[fill_take (fun j=>listed.getD j false) V v l 0 a0 i o hol (by rw[Nat.zero_add];exact hun') fun q o' hq hne d hd1 hd2=>by
    have h1:=(hB' i o ho).2 q (by have:=(List.getElem?_eq_some_iff.1 hq).1;simpa using this);have hq':l.toArray[q]? =some o':=by simpa using hq
    simp[hne,hq',hd2,hd1]at h1]
   have hcl':=hcl.set hi;have e:(fun j=>if j=0+i then true else listed.getD j false)=fun j=>(listed.setIfInBounds i true).getD j false:=by
    funext j
    rw[Nat.zero_add];by_cases hj:j=i
    ·subst hj;simp[hlis]
    ·rw[if_neg hj,getD_set_ne false (fun e=>hj e.symm)]
   rw[e];refine ih _ _ w' (by simpa using hs) hcl' (Gt _ _ _ hg (TG i _ _ hg hgw)) (fun j hj hal=>?_) ?_
   ·rw[Nat.zero_add]
    by_cases hji:j=i
    ·subst hji;rw[if_pos rfl];exact hR
    ·rw[if_neg hji]
     rw[getD_set_ne false (fun e=>hji e.symm)]at hj;have hold:=hr j hj fun i' hb' hl' ht'=>hal i' hb' (by
      by_cases h:i'=i
      ·subst h;simp[hlis]
      ·rw[getD_set_ne false (fun e=>h e.symm)];exact hl') ht'
     cases hbi:bar i with
     |false=>exact mono i j _ w w' hbi hg hgw hold
     |true=>
      refine monoS j _ w w' ?_ hg (TG i _ _ hg hgw) hold;rcases hK1 i hltl hbi j (hin j hj)with h|h|h|h
      ·exact absurd h hji
      ·exact hal i hbi (by simp[hlis]) h
      ·have:=hanc listed hcl j i (hin j hj) hj h
       rw[hun']at this;cases this
      ·exact h
   ·obtain⟨τ,ρ,e1,e2,_⟩:=rem_split (by simpa using hs) (mem_rem.2 ⟨hlt,hun⟩)
    rw[e2];rw[e1]at hf;simp only[List.length_append,List.length_cons]at hf ⊢;omega
  ·refine fill_at _ _ V d l 0 a0 a0 rfl rfl fun q o' hq hod=>?_
   rw[Nat.zero_add];have hq':l.toArray[q]? =some o':=by simpa using hq
   have hql:q<l.length:=(List.getElem?_eq_some_iff.1 hq).1;by_cases hqi:q=i
   ·subst hqi;rw[hun'];simp
   ·have h1:=(hB' i o ho).2 q (by simpa using hql)
    have hdc:(o.looksAt l.toArray).contains d=true:=by simpa using hd
    simp only[hqi,beq_iff_eq,hq',Option.bind_some,hod,hdc,Bool.not_true,Bool.false_or,Bool.or_eq_true,Bool.and_eq_true,decide_eq_true_eq,false_or]at h1;rcases h1.2 with⟨h2,h3⟩|⟨h2,h3⟩
    ·rw[decide_eq_true h2]
     unfold needs at h3;simp only[List.any_eq_true,Bool.and_eq_true,beq_iff_eq]at h3;obtain⟨e,he,hb,rfl⟩:=h3;exact hdone e (by simpa using he) hb
    ·rw[decide_eq_false (by omega)]
     by_cases hqd:listed.getD q false=true
     ·exfalso
      have:=htr.listed hcl q o' i (by omega) hq' (fun e he hb=>hcl q o' hq' hqd e he hb) h3;rw[hun']at this;cases this
     ·simpa using hqd
abbrev SP:={p:Value->World->Prop // ∀v w w',Below w.heap.size w w'->p v w->p v w'}
abbrev Want:=Sum Value SP
def Want.holds:Want->Value->World->Prop
 | .inl u,v,_=>v=u
 | .inr p,v,w=>p.1 v w
def Want.fixed:Want->Bool
 | .inl _=>true
 | .inr _=>false
def wantAt(L:List Want)(j:Nat):Want:=L.getD j (.inl undef)
def Turns(B:Nat)(bar:List Nat)(i:Nat)(x y:World):Prop:=match bar.contains i with
 |true=>Below B x y
 |false=>Below x.heap.size x y
theorem wp_region_inw{id:Nat}{l:List Oper}{Q:Exit->Act->World->Prop}{a:Act}{w:World}(L:List Want)(bar:List Nat)(hm:P.follows .mixedOrders=true)(hB:invB l.toArray=true)
  (hK:barB l.toArray (fun j=>(wantAt L j).fixed) (fun i=>bar.contains i)=true)
  (h:invList2 P l.toArray (Below w.heap.size) (Turns w.heap.size bar) (aliveB l.toArray (fun j=>(wantAt L j).fixed) (fun i=>bar.contains i)) w.drew (fun j v w=>(wantAt L j).holds v w) (Q .normal) l [] a):(Code.region id l.toArray true).wp P Q a w:=by
 refine Code.wp_mono (Q:=Only (Q .normal)) (fun e a w hq=>by cases e <;> first|exact hq|exact hq.elim) ?_;refine wp_region_any hm ?_;have hsz:∀{x:World},Below w.heap.size w.drew x->w.heap.size<=x.heap.size:=fun hx=>hx.size
 have h0:=inv2_any (w0:=w.drew) (R:=fun j v w=>(wantAt L j).holds v w) hB hK (fun _ _ _ h1 h2=>h1.trans h2) (fun i x y hg ht=>by
   unfold Turns at ht
   split at ht
   ·exact ht
   ·exact ht.mono (hsz hg)) (fun i j v x y hbi hg ht hr=>by
   unfold Turns at ht;rw[hbi]at ht;cases e:wantAt L j with
   |inl u=>rw[e]at hr;exact hr
   |inr p=>rw[e]at hr;exact p.2 v x y ht hr) (fun j v x y hs hg ht hr=>by
   cases e:wantAt L j with
   |inl u=>rw[e]at hr;exact hr
   |inr p=>rw[e]at hs;cases hs) h l.toArray.size (Array.replicate l.toArray.size false) (fun _=>undef) w.drew (by simp) (fun j oj _ hl=>by rw[getD_replicate0]at hl;cases hl) (br) (fun j hj=>by rw[getD_replicate0]at hj;cases hj) ?_
 ·rw[fill_none]at h0
  ·exact h0
  ·intro j _;exact getD_replicate0 _ _
 ·refine Nat.le_trans (List.length_filter_le _ _) ?_
  simp
theorem inw_cons{G:World->World->Prop}{T:Nat->World->World->Prop}{alive:Nat->Bool}{w0:World}{R:Nat->Value->World->Prop}{K:Act->World->Prop}{o:Oper}{r:List Oper}{vs:List Value}{a:Act}
 (h1:∀w,G w0 w->(∀ j,j<vs.length->uses o j=true->R j (vs.getD j undef) w)->wpList P ops (Leaves a o.dst fun v w'=>T vs.length w w'/\R vs.length v w') [o] a w)
 (h2:∀v,invList2 P ops G T alive w0 R K r (vs++[v]) (a.put o.dst v)):invList2 P ops G T alive w0 R K (o::r) vs a:=⟨h1,h2⟩
theorem inw_done{G:World->World->Prop}{T:Nat->World->World->Prop}{alive:Nat->Bool}{w0:World}{R:Nat->Value->World->Prop}{K:Act->World->Prop}{vs:List Value}{a:Act}
 (h:∀w,G w0 w->(∀ j,j<vs.length->alive j=true->R j (vs.getD j undef) w)->K a w):invList2 P ops G T alive w0 R K [] vs a:=h
end
end
section
open Go.RowKit Go.Lib Wd
theorem nadd_in(a b:Int)(h1: -4611686018427387904<=a)(h2:a<=4611686018427387903)(h3: -4611686018427387904<=b)(h4:b<=4611686018427387903)(w:World):
  Calls Tryz.prog 105 #[.int .i64 a,.int .i64 b] w fun e w'=>e=.returned (.tuple #[.int .i64 (a+b),.bool true])/\w'=w:=by
 rcases(show b<0∨b=0∨0<b by omega)with hb|hb|hb
 ·have q1:decide (a<a+b)=false:=decide_eq_false (by omega)
  have q2:decide (0<b)=false:=decide_eq_false (by omega)
  go_enter Tryz.func105,Tryz.ntmps105
  go_wp2;go_ret2;exact⟨rfl,rfl⟩
 ·subst hb
  go_enter Tryz.func105,Tryz.ntmps105
  go_wp2;go_ret2;exact⟨by simp,rfl⟩
 ·have q1:decide (a<a+b)=true:=decide_eq_true (by omega)
  have q2:decide (0<b)=true:=decide_eq_true (by omega)
  go_enter Tryz.func105,Tryz.ntmps105
  go_wp2;go_ret2;exact⟨rfl,rfl⟩
theorem nsub_in(a b:Int)(h1: -4611686018427387904<=a)(h2:a<=4611686018427387903)(h3: -4611686018427387904<=b)(h4:b<=4611686018427387903)(w:World):
  Calls Tryz.prog 182 #[.int .i64 a,.int .i64 b] w fun e w'=>e=.returned (.tuple #[.int .i64 (a-b),.bool true])/\w'=w:=by
 rcases(show b<0∨b=0∨0<b by omega)with hb|hb|hb
 ·have q1:decide (a-b<a)=false:=decide_eq_false (by omega)
  have q2:decide (0<b)=false:=decide_eq_false (by omega)
  go_enter Tryz.func182,Tryz.ntmps182
  go_wp2;go_ret2;exact⟨rfl,rfl⟩
 ·subst hb
  go_enter Tryz.func182,Tryz.ntmps182
  go_wp2;go_ret2;exact⟨by simp,rfl⟩
 ·have q1:decide (a-b<a)=true:=decide_eq_true (by omega)
  have q2:decide (0<b)=true:=decide_eq_true (by omega)
  go_enter Tryz.func182,Tryz.ntmps182
  go_wp2;go_ret2;exact⟨rfl,rfl⟩
theorem within_any(a m:Int)(h1:0<=m)(h2:m<=4611686018427387903)(w:World):
  Calls Tryz.prog 116 #[.int .i64 a,.int .i64 m] w fun e w'=>e=.returned (.bool (decide (-m<=a)&&decide (a<=m)))/\w'=w:=by
 have HF:Hid ((decide (-m<=a)&&decide (a<=m))=(decide (-m<=a)&&decide (a<=m))):=rfl;rcases(show a< -m∨(-m<=a/\m<a)∨(-m<=a/\a<=m) by omega)with h|⟨h,h3⟩|⟨h,h3⟩
 ·have hr:(decide (-m<=a)&&decide (a<=m))=false:=by simp;omega
  have HR:=Hd hr;rw[hr];clear hr HF
  go_enter Tryz.func116,Tryz.ntmps116
  go_wp2;go_ret;exact⟨rfl,rfl⟩
 ·have hr:(decide (-m<=a)&&decide (a<=m))=false:=by simp;omega
  rw[hr];clear hr HF
  go_enter Tryz.func116,Tryz.ntmps116
  go_wp2;go_ret;exact⟨rfl,rfl⟩
 ·have hr:(decide (-m<=a)&&decide (a<=m))=true:=by simp;omega
  have q1:(a != -9223372036854775808)=true:=by simp;omega
  rw[hr];clear hr HF
  go_enter Tryz.func116,Tryz.ntmps116
  go_wp2;go_ret;exact⟨rfl,rfl⟩
theorem floor_nums{a d:Int}(hd:0<d):(a.tmod d<0/\a.tdiv d-1=a/d/\a.tmod d+d=a%d/\0<=a.tmod d+d/\a.tmod d+d<d)∨(0<=a.tmod d/\a.tdiv d=a/d/\a.tmod d=a%d):=by
 have h1:=Int.mul_tdiv_add_tmod a d;have h2:=Int.tmod_lt_of_pos a hd;have h3:=Int.lt_tmod_of_pos a hd;rcases Int.lt_or_le (a.tmod d) 0 with h|h
 ·left
  have:=(Int.ediv_emod_unique (a:=a) (b:=d) (r:=a.tmod d+d) (q:=a.tdiv d-1) hd).2 ⟨by rw[Int.mul_sub];omega,by omega,by omega⟩;exact⟨h,this.1.symm,this.2.symm,by omega,by omega⟩
 ·right
  have:=(Int.ediv_emod_unique (a:=a) (b:=d) (r:=a.tmod d) (q:=a.tdiv d) hd).2 ⟨by omega,by omega,by omega⟩;exact⟨h,this.1.symm,this.2.symm⟩
theorem floor_any(a d:Int)(hd:0<d)(hd2:d<=4611686018427387903)(h1: -4611686018427387904<=a)(h2:a<=4611686018427387903)(w:World):
  Calls Tryz.prog 173 #[.int .i64 a,.int .i64 d] w fun e w'=>e=.returned (.tuple #[.int .i64 (a/d),.int .i64 (a%d),.bool true])/\∃n,w'=w.drewN n:=by
 have hb1:=Int.ediv_mul_le a (show d≠0 by omega);have q0:d≠0:=by omega
 have q9:d≠ -1:=by omega
 have hq: -4611686018427387905<=a.tdiv d/\a.tdiv d<=4611686018427387905:=by
  have:=Int.natAbs_tdiv_le_natAbs a d;omega
 obtain⟨hq1,hq2⟩:=hq;rcases floor_nums (a:=a) hd with⟨k1,k2,k3,k4,k5⟩|⟨k1,k2,k3⟩
 ·rw[<- k2, <-k3]
  clear k2 k3 hb1;generalize hx:a.tdiv d=x at *;generalize hy:a.tmod d=y at*
  go_enter Tryz.func173,Tryz.ntmps173
  go_upto_region 3 with(fail)
  go_quiet (fail)
  go_wp2
  go_ret3
  exact⟨rfl,_,rfl⟩
 ·rw[<- k2, <-k3]
  clear k2 k3 hb1;generalize hx:a.tdiv d=x at *;generalize hy:a.tmod d=y at*
  go_enter Tryz.func173,Tryz.ntmps173
  go_upto_region 3 with(fail)
  go_quiet (fail)
  go_wp2
  go_ret3
  exact⟨rfl,_,rfl⟩
def hW(A:Int):Int:=A/18446744073709551616
def lW(A:Int):Int:=A%18446744073709551616
theorem times_in(a b:Int)(ha: -2305843009213693952<=a/\a<=2305843009213693952)(hb: -2305843009213693952<=b/\b<=2305843009213693952)(w:World):
  Calls Tryz.prog 111 #[.int .i64 a,.int .i64 b] w fun e w'=>e=.returned (.agg #[.int .i64 (hW (a*b)),.int .u64 (lW (a*b))])/\Below w.heap.size w w':=by
 obtain⟨x,hx⟩:∃x:Nat,(a%18446744073709551616).toNat=x:=⟨_,rfl⟩;obtain⟨y,hy⟩:∃x:Nat,(b%18446744073709551616).toNat=x:=⟨_,rfl⟩;have hx1:(x:Int)=a%18446744073709551616:=by omega
 have hy1:(y:Int)=b%18446744073709551616:=by omega
 have HM:Hid (∀ w:World,_):=fun w=>mul64_any x y (by omega) (by omega) w
 have ea:IntKind.u64.wrap a=(x:Int):=by rw[IntKind.wrap_u64,hx1]
 have eb:IntKind.u64.wrap b=(y:Int):=by rw[IntKind.wrap_u64,hy1]
 have hp: -5316911983139663491615228241121378304<=a*b/\a*b<=5316911983139663491615228241121378304:=by
  have h1:(a*b).natAbs<=2305843009213693952*2305843009213693952:=by rw[Int.natAbs_mul];exact Nat.mul_le_mul (by omega) (by omega)
  omega
 obtain⟨n,hn⟩:∃n:Nat,x*y=n:=⟨_,rfl⟩;have hn1:(n:Int)=(a%18446744073709551616)*(b%18446744073709551616):=by rw[<- hn,Int.natCast_mul,hx1,hy1]
 rw[hn]at HM;obtain⟨P,hP⟩:∃P:Int,a*b=P:=⟨_,rfl⟩;rw[hP]at hp ⊢;have key:∀H L:Int,H=hW P->L=lW P->Hid (H=hW P/\L=lW P):=fun _ _ h1 h2=>⟨h1,h2⟩
 by_cases h1:a<0 <;> by_cases h2:b<0
 ·have q1:a%18446744073709551616=a+18446744073709551616:=by omega
  have q2:b%18446744073709551616=b+18446744073709551616:=by omega
  have hn2:(n:Int)=P+18446744073709551616*(a+b)+340282366920938463463374607431768211456:=by rw[hn1,q1,q2, <-hP,Int.add_mul,Int.mul_add,Int.mul_add];omega
  obtain⟨H,hH⟩:∃H:Nat,n/18446744073709551616=H:=⟨_,rfl⟩;obtain⟨L,hL⟩:∃H:Nat,n%18446744073709551616=H:=⟨_,rfl⟩;rw[hH,hL]at HM;have e0:IntKind.i64.wrap (H:Int)=hW P+a+b:=by rw[IntKind.wrap_i64];unfold hW;omega
  have e1:IntKind.i64.wrap (hW P+a+b-b)=hW P+a:=by rw[IntKind.wrap_i64];unfold hW;omega
  have e2:IntKind.i64.wrap (hW P+a-a)=hW P:=by rw[IntKind.wrap_i64];unfold hW;omega
  have HE:Hid ((L:Int)=lW P):=by show _=_;unfold lW;omega
  clear hn hn1 hn2 q1 q2 hx hy hx1 hy1 hp hP ha hb hH hL key;generalize hW P+a+b=A0 at *;generalize hW P+a=A1 at *;generalize hW P=A2 at*
  go_enter Tryz.func111,Tryz.ntmps111
  go_wp2_with(go_at_call 39;refine(HM.out _).mono ?_;rintro e w' ⟨rfl,rfl⟩)
  exact bodyPost_ret (v:=.agg #[.int .i64 A2,.int .u64 L]) (by simp[results,Tryz.results111,go_sem]) rfl ⟨by rw[HE.out],br.alloc lr _⟩
 ·have q1:a%18446744073709551616=a+18446744073709551616:=by omega
  have q2:b%18446744073709551616=b:=by omega
  have hn2:(n:Int)=P+18446744073709551616*b:=by rw[hn1,q1,q2, <-hP,Int.add_mul]
  have qb:decide (b<0)=false:=by simpa using h2
  obtain⟨H,hH⟩:∃H:Nat,n/18446744073709551616=H:=⟨_,rfl⟩;obtain⟨L,hL⟩:∃H:Nat,n%18446744073709551616=H:=⟨_,rfl⟩;rw[hH,hL]at HM;have e0:IntKind.i64.wrap (H:Int)=hW P+b:=by rw[IntKind.wrap_i64];unfold hW;omega
  have e1:IntKind.i64.wrap (hW P+b-b)=hW P:=by rw[IntKind.wrap_i64];unfold hW;omega
  have HE:Hid ((L:Int)=lW P):=by show _=_;unfold lW;omega
  clear hn hn1 hn2 q1 q2 hx hy hx1 hy1 hp hP ha hb hH hL key;generalize hW P+b=A1 at *;generalize hW P=A2 at*
  go_enter Tryz.func111,Tryz.ntmps111
  go_wp2_with(go_at_call 39;refine(HM.out _).mono ?_;rintro e w' ⟨rfl,rfl⟩)
  exact bodyPost_ret (v:=.agg #[.int .i64 A2,.int .u64 L]) (by simp[results,Tryz.results111,go_sem]) rfl ⟨by rw[HE.out],br.alloc lr _⟩
 ·have q1:a%18446744073709551616=a:=by omega
  have q2:b%18446744073709551616=b+18446744073709551616:=by omega
  have hn2:(n:Int)=P+18446744073709551616*a:=by rw[hn1,q1,q2, <-hP,Int.mul_add,Int.mul_comm a 18446744073709551616]
  have qa:decide (a<0)=false:=by simpa using h1
  obtain⟨H,hH⟩:∃H:Nat,n/18446744073709551616=H:=⟨_,rfl⟩;obtain⟨L,hL⟩:∃H:Nat,n%18446744073709551616=H:=⟨_,rfl⟩;rw[hH,hL]at HM;have e0:IntKind.i64.wrap (H:Int)=hW P+a:=by rw[IntKind.wrap_i64];unfold hW;omega
  have e1:IntKind.i64.wrap (hW P+a-a)=hW P:=by rw[IntKind.wrap_i64];unfold hW;omega
  have HE:Hid ((L:Int)=lW P):=by show _=_;unfold lW;omega
  clear hn hn1 hn2 q1 q2 hx hy hx1 hy1 hp hP ha hb hH hL key;generalize hW P+a=A1 at *;generalize hW P=A2 at*
  go_enter Tryz.func111,Tryz.ntmps111
  go_wp2_with(go_at_call 39;refine(HM.out _).mono ?_;rintro e w' ⟨rfl,rfl⟩)
  exact bodyPost_ret (v:=.agg #[.int .i64 A2,.int .u64 L]) (by simp[results,Tryz.results111,go_sem]) rfl ⟨by rw[HE.out],br.alloc lr _⟩
 ·have q1:a%18446744073709551616=a:=by omega
  have q2:b%18446744073709551616=b:=by omega
  have hn2:(n:Int)=P:=by rw[hn1,q1,q2,hP]
  have qa:decide (a<0)=false:=by simpa using h1
  have qb:decide (b<0)=false:=by simpa using h2
  obtain⟨H,hH⟩:∃H:Nat,n/18446744073709551616=H:=⟨_,rfl⟩;obtain⟨L,hL⟩:∃H:Nat,n%18446744073709551616=H:=⟨_,rfl⟩;rw[hH,hL]at HM;have e0:IntKind.i64.wrap (H:Int)=hW P:=by rw[IntKind.wrap_i64];unfold hW;omega
  have HE:Hid ((L:Int)=lW P):=by show _=_;unfold lW;omega
  clear hn hn1 hn2 q1 q2 hx hy hx1 hy1 hp hP ha hb hH hL key;generalize hW P=A2 at*
  go_enter Tryz.func111,Tryz.ntmps111
  go_wp2_with(go_at_call 39;refine(HM.out _).mono ?_;rintro e w' ⟨rfl,rfl⟩)
  exact bodyPost_ret (v:=.agg #[.int .i64 A2,.int .u64 L]) (by simp[results,Tryz.results111,go_sem]) rfl ⟨by rw[HE.out],br.alloc lr _⟩
theorem sub64_run(x y c:Nat)(hc:c<=1)(w:World):
  (callFunc 161 #[.int .u64 x,.int .u64 y,.int .u64 c]).run Tryz.prog w=
   .ok (.value (.tuple #[.int .u64 (((x+18446744073709551616-y-c)%18446744073709551616:Nat):Int),.int .u64 ((if x<y+c then 1 else 0:Nat):Int)])) w:=by
 rw[run_callFunc_extern Tryz.func161 (by kernel_rfl) (by kernel_rfl) (by kernel_rfl) (e:=sub64Entry) (by kernel_rfl),run_sub64 x y c hc]
 rfl
theorem wplus_in(A B:Int)(ha: -10633823966279326983230456482242756608<=A/\A<=10633823966279326983230456482242756608)(hb: -10633823966279326983230456482242756608<=B/\B<=10633823966279326983230456482242756608)(w:World):
  Calls Tryz.prog 110 #[.agg #[.int .i64 (hW A),.int .u64 (lW A)],.agg #[.int .i64 (hW B),.int .u64 (lW B)]] w fun e w'=>e=.returned (.agg #[.int .i64 (hW (A+B)),.int .u64 (lW (A+B))])/\Below w.heap.size w w':=by
 obtain⟨x,hx⟩:∃x:Nat,(lW A).toNat=x:=⟨_,rfl⟩;obtain⟨y,hy⟩:∃x:Nat,(lW B).toNat=x:=⟨_,rfl⟩;have hx1:lW A=(x:Int):=by unfold lW at *;omega
 have hy1:lW B=(y:Int):=by unfold lW at *;omega
 rw[hx1,hy1];obtain⟨c,hc⟩:∃c,(x+y+0)/18446744073709551616=c:=⟨_,rfl⟩;obtain⟨l,hl⟩:∃c,(x+y+0)%18446744073709551616=c:=⟨_,rfl⟩;have A1:∀w,(callFunc 119 #[.int .u64 x,.int .u64 y,.int .u64 0]).run Tryz.prog w=.ok (.value (.tuple #[.int .u64 (l:Nat),.int .u64 (c:Nat)])) w:=fun w=>by
  have:=add64_run x y 0 (by omega) w;rw[hc,hl]at this;exact this
 have e0:IntKind.i64.wrap (hW A+hW B)=hW A+hW B:=by rw[IntKind.wrap_i64];unfold hW;omega
 have e1:IntKind.i64.wrap (c:Int)=c:=by rw[IntKind.wrap_i64];unfold lW at hx1 hy1;omega
 have e2:IntKind.i64.wrap (hW A+hW B+c)=hW (A+B):=by rw[IntKind.wrap_i64];unfold hW;unfold lW at hx1 hy1;omega
 have HL:Hid (lW (A+B)=(l:Int)):=by show _=_;unfold lW at *;omega
 clear hx hy hx1 hy1 hc hl ha hb;generalize hW (A+B)=h3 at *;generalize hW A=h1 at *;generalize hW B=h2 at *;generalize lW (A+B)=l3 at*
 go_enter Tryz.func110,Tryz.ntmps110
 go_wp2;exact bodyPost_ret (v:=.agg #[.int .i64 h3,.int .u64 l]) (by simp[results,Tryz.results110,go_sem]) rfl ⟨by rw[HL.out],((br.alloc lr _).alloc (by simp) _).alloc (by simp;omega) _⟩
theorem wminus_in(A B:Int)(ha: -10633823966279326983230456482242756608<=A/\A<=10633823966279326983230456482242756608)(hb: -10633823966279326983230456482242756608<=B/\B<=10633823966279326983230456482242756608)(w:World):
  Calls Tryz.prog 112 #[.agg #[.int .i64 (hW A),.int .u64 (lW A)],.agg #[.int .i64 (hW B),.int .u64 (lW B)]] w fun e w'=>e=.returned (.agg #[.int .i64 (hW (A-B)),.int .u64 (lW (A-B))])/\Below w.heap.size w w':=by
 obtain⟨x,hx⟩:∃x:Nat,(lW A).toNat=x:=⟨_,rfl⟩;obtain⟨y,hy⟩:∃x:Nat,(lW B).toNat=x:=⟨_,rfl⟩;have hx1:lW A=(x:Int):=by unfold lW at *;omega
 have hy1:lW B=(y:Int):=by unfold lW at *;omega
 rw[hx1,hy1];obtain⟨c,hc⟩:∃c:Nat,(if x<y+0 then 1 else 0)=c:=⟨_,rfl⟩;obtain⟨l,hl⟩:∃c,(x+18446744073709551616-y-0)%18446744073709551616=c:=⟨_,rfl⟩;have A1:∀w,(callFunc 161 #[.int .u64 x,.int .u64 y,.int .u64 0]).run Tryz.prog w=.ok (.value (.tuple #[.int .u64 (l:Nat),.int .u64 (c:Nat)])) w:=fun w=>by
  have:=sub64_run x y 0 (by omega) w;rw[hc,hl]at this;exact this
 have hc2:(x<y/\c=1)∨(y<=x/\c=0):=by split at hc <;> omega
 have e0:IntKind.i64.wrap (hW A-hW B)=hW A-hW B:=by rw[IntKind.wrap_i64];unfold hW;omega
 have e1:IntKind.i64.wrap (c:Int)=c:=by rw[IntKind.wrap_i64];omega
 have e2:IntKind.i64.wrap (hW A-hW B-c)=hW (A-B):=by rw[IntKind.wrap_i64];unfold hW;unfold lW at hx1 hy1;omega
 have HL:Hid (lW (A-B)=(l:Int)):=by show _=_;unfold lW at *;omega
 clear hx hy hx1 hy1 hc hl ha hb hc2;generalize hW (A-B)=h3 at *;generalize hW A=h1 at *;generalize hW B=h2 at *;generalize lW (A-B)=l3 at*
 go_enter Tryz.func112,Tryz.ntmps112
 go_wp2;exact bodyPost_ret (v:=.agg #[.int .i64 h3,.int .u64 l]) (by simp[results,Tryz.results112,go_sem]) rfl ⟨by rw[HL.out],((br.alloc lr _).alloc (by simp) _).alloc (by simp;omega) _⟩
theorem wshort_in(A:Int)(ha: -4611686018427387904<=A/\A<=4611686018427387904)(w:World):
  Calls Tryz.prog 113 #[.agg #[.int .i64 (hW A),.int .u64 (lW A)]] w fun e w'=>e=.returned (.tuple #[.int .i64 A,.bool true])/\Below w.heap.size w w':=by
 have e1:IntKind.i64.wrap (lW A)=A:=by rw[IntKind.wrap_i64];unfold lW;omega
 rcases(show A<0∨0<=A by omega)with h|h
 ·have e2:hW A= -1:=by unfold hW;omega
  rw[e2];have q1:decide (A<0)=true:=by simpa using h
  clear ha e2;generalize lW A=l at*
  go_enter Tryz.func113,Tryz.ntmps113
  go_wp2;go_ret2;exact⟨rfl,br.alloc lr _⟩
 ·have e2:hW A=0:=by unfold hW;omega
  rw[e2];have q1:decide (A<0)=false:=by simp;omega
  have q2:decide (0<=A)=true:=by simpa using h
  clear ha e2;generalize lW A=l at*
  go_enter Tryz.func113,Tryz.ntmps113
  go_wp2;go_ret2;exact⟨rfl,br.alloc lr _⟩
def Two(w:World)(b:Nat)(u v:Value):Prop:=w.cell? ⟨b,0,none⟩=some u/\w.cell? ⟨b,1,none⟩=some v
theorem Two.later{w w':World}{b:Nat}{u v:Value}(h:Two w b u v)(hb:b<w.heap.size)(h1:Below w.heap.size w w'):Two w' b u v:=
 ⟨(h1.cell (p:=⟨b,0,none⟩) hb).trans h.1,(h1.cell (p:=⟨b,1,none⟩) hb).trans h.2⟩
theorem Two.of_row{w:World}{b:Nat}{u v:Value}{t:TypeId}{f}(h:w.heap[b]? =some (.cells #[u,v] t f)):Two w b u v:=
 ⟨cell_of_row _ _ 0 _ _ _ h,cell_of_row _ _ 1 _ _ _ h⟩
def Two2(w:World)(b:Nat)(u v:Value):Prop:=Two w b u v/\w.frozen? ⟨b,0,none⟩=false/\w.frozen? ⟨b,1,none⟩=false
theorem Two2.later{w w':World}{b:Nat}{u v:Value}(h:Two2 w b u v)(hb:b<w.heap.size)(h1:Below w.heap.size w w'):Two2 w' b u v:=
 ⟨h.1.later hb h1,(h1.frozen (p:=⟨b,0,none⟩) hb).trans h.2.1,(h1.frozen (p:=⟨b,1,none⟩) hb).trans h.2.2⟩
theorem Two2.of_row{w:World}{b:Nat}{u v:Value}{t:TypeId}(h:w.heap[b]? =some (.cells #[u,v] t (0,0))):Two2 w b u v:=
 ⟨.of_row h,frozen_of_row _ _ _ _ _ h,frozen_of_row _ _ _ _ _ h⟩
theorem both_in(a b:Int)(w:World):
  Calls Tryz.prog 114 #[.int .i64 a,.bool true,.int .i64 b,.bool true] w fun e w'=>e=.returned (.tuple #[.agg #[.int .i64 a,.int .i64 b],.bool true])/\Below w.heap.size w w':=by
 go_enter Tryz.func114,Tryz.ntmps114
 go_wp2;exact bodyPost_ret (v:=.tuple #[.agg #[.int .i64 a,.int .i64 b],.bool true]) (by simp[results,Tryz.results114,go_sem]) rfl ⟨rfl,br.alloc lr _⟩
theorem prod_in{a b:Int}(ha: -1152921504606846976<=a/\a<=1152921504606846976)(hb: -1152921504606846976<=b/\b<=1152921504606846976):
  -1329227995784915872903807060280344576<=a*b/\a*b<=1329227995784915872903807060280344576:=by
 have h1:(a*b).natAbs<=1152921504606846976*1152921504606846976:=by rw[Int.natAbs_mul];exact Nat.mul_le_mul (by omega) (by omega)
 omega
theorem mul_in(a b c d:Int)(ha: -1152921504606846976<=a/\a<=1152921504606846976)(hb: -1152921504606846976<=b/\b<=1152921504606846976)(hc: -1152921504606846976<=c/\c<=1152921504606846976)(hd: -1152921504606846976<=d/\d<=1152921504606846976)
  (h1: -4611686018427387904<=a*c-b*d/\a*c-b*d<=4611686018427387904) (h2: -4611686018427387904<=a*d+b*c+b*d/\a*d+b*c+b*d<=4611686018427387904) (w:World):
  Calls Tryz.prog 71 #[.agg #[.int .i64 a,.int .i64 b],.agg #[.int .i64 c,.int .i64 d]] w fun e w'=>e=.returned (.tuple #[.agg #[.int .i64 (a*c-b*d),.int .i64 (a*d+b*c+b*d)],.bool true])/\Below w.heap.size w w':=by
 have p1:=prod_in ha hc;have p2:=prod_in hb hd;have p3:=prod_in ha hd;have p4:=prod_in hb hc;have T1:=Hd (times_in a c (by omega) (by omega));have T2:=Hd (times_in b d (by omega) (by omega));have T3:=Hd (times_in a d (by omega) (by omega));have T4:=Hd (times_in b c (by omega) (by omega));have M1:=Hd (wminus_in (a*c) (b*d) (by omega) (by omega));have P1:=Hd (wplus_in (a*d) (b*c) (by omega) (by omega));have P2:=Hd (wplus_in (a*d+b*c) (b*d) (by omega) (by omega));have S1:=Hd (wshort_in _ h1);have S2:=Hd (wshort_in _ h2);clear p1 p2 p3 p4 ha hb hc hd h1 h2;generalize a*c=ac at *;generalize b*d=bd at *;generalize a*d=ad at *;generalize b*c=bc at*
 go_enter Tryz.func71,Tryz.ntmps71
 go_wp2_with fail
 refine(T2.out _).mono ?_;rintro e w1 ⟨rfl,hb1⟩;have hz:=hb1.size;simp at hz;have h2:Two w1 w.heap.size (.int .i64 a) (.int .i64 b):=(Two.of_row (t:=37) (f:=_) (by rw[Below.heap_alloc _ _ _ (by simp;omega),Below.heap_alloc _ _ _ (by simp)];exact heap_new _ _ _ rfl)).later (by simp;omega) hb1;have h3:Two w1 (w.heap.size+1) (.int .i64 c) (.int .i64 d):=(Two.of_row (t:=37) (f:=_) (by rw[Below.heap_alloc _ _ _ (by simp)];exact heap_new _ _ _ (by simp))).later (by simp) hb1;have h5:Two2 w1 (w.heap.size+2) (.int .i64 0) (.int .i64 0):=(Two2.of_row (t:=37) (heap_new _ _ _ (by simp))).later (by simp) hb1
 go_upto_region 3 with(fail)
 have hq:Hid (Below w.heap.size w w1):=((br.alloc lr _).alloc (by simp) _).alloc (by simp;omega) _ |>.trans (hb1.mono (by simp;omega))
 have h4:Two (w1.alloc (.cells #[.int .i64 (hW bd),.int .u64 (lW bd)] 164)) w1.heap.size (.int .i64 (hW bd)) (.int .u64 (lW bd)):=Two.of_row (heap_new _ _ _ rfl);have h2:=h2.later (by omega) (br.alloc lr (.cells #[.int .i64 (hW bd),.int .u64 (lW bd)] 164));have h3:=h3.later (by omega) (br.alloc lr (.cells #[.int .i64 (hW bd),.int .u64 (lW bd)] 164));have h5:=h5.later (by omega) (br.alloc lr (.cells #[.int .i64 (hW bd),.int .u64 (lW bd)] 164));have hq:=Hd (hq.out.alloc (by omega) (.cells #[.int .i64 (hW bd),.int .u64 (lW bd)] 164));have hs:w1.heap.size<(w1.alloc (.cells #[.int .i64 (hW bd),.int .u64 (lW bd)] 164)).heap.size:=by simp
 generalize w1.alloc (.cells #[.int .i64 (hW bd),.int .u64 (lW bd)] 164)=w2 at *;have HC:Hid (∀ wx,Below w2.heap.size w2 wx->Two wx w.heap.size (.int .i64 a) (.int .i64 b)/\Two wx (w.heap.size+1) (.int .i64 c) (.int .i64 d)/\Two wx w1.heap.size (.int .i64 (hW bd)) (.int .u64 (lW bd))/\Two2 wx (w.heap.size+2) (.int .i64 0) (.int .i64 0)):=fun wx hx=>⟨h2.later (by omega) hx,h3.later (by omega) hx,h4.later (by omega) hx,h5.later (by omega) hx⟩
 clear h2 h3 h4 h5 hb1;refine wp_region_inv (fun w w'=>Below w.heap.size w w') (fun qi_ qv_ _=>qv_=([.pointer (some ⟨w.heap.size,0,none⟩),.int .i64 a,.pointer (some ⟨w.heap.size+1,0,none⟩),.int .i64 c,.agg #[.int .i64 (hW ac),.int .u64 (lW ac)],.agg #[.int .i64 (hW bd),.int .u64 (lW bd)],.agg #[.int .i64 (hW (ac-bd)),.int .u64 (lW (ac-bd))],.tuple #[.int .i64 (ac-bd),.bool true],.tuple #[.int .i64 (ac-bd),.bool true],.int .i64 (ac-bd),.bool true,.int .i64 (ac-bd),.bool true]:List Value).getD qi_ undef) (by kernel_rfl) (by kernel_rfl) (fun _=>br) (fun _ _ _ h1 h2=>below_later h1 h1.size h2) (fun _ _ _ _ _ _ h=>h) ?_;refine inv_cons (fun wx hg hd=>?_) (fun v0=>?_)
 ·have hx:=hxo w2 hg
  clear hd hg;go_wp2;exact⟨_,rfl,br,rfl⟩
 (try simp only[pq])
 refine inv_cons (fun wx hg hd=>?_) (fun v1=>?_)
 ·have hx:=hxo w2 hg
  (try cases gk 0 hd (by decide) rfl rfl)
  clear hd hg;obtain⟨⟨k1,k2⟩,⟨k3,k4⟩,⟨k5,k6⟩,_⟩:=HC.out _ hx;go_wp2;exact⟨_,rfl,br,rfl⟩
 (try simp only[pq])
 refine inv_cons (fun wx hg hd=>?_) (fun v2=>?_)
 ·have hx:=hxo w2 hg
  clear hd hg;go_wp2;exact⟨_,rfl,br,rfl⟩
 (try simp only[pq])
 refine inv_cons (fun wx hg hd=>?_) (fun v3=>?_)
 ·have hx:=hxo w2 hg
  (try cases gk 2 hd (by decide) rfl rfl)
  clear hd hg;obtain⟨⟨k1,k2⟩,⟨k3,k4⟩,⟨k5,k6⟩,_⟩:=HC.out _ hx;go_wp2;exact⟨_,rfl,br,rfl⟩
 (try simp only[pq])
 refine inv_cons (fun wx hg hd=>?_) (fun v4=>?_)
 ·have hx:=hxo w2 hg
  (try cases gk 1 hd (by decide) rfl rfl)
  (try cases gk 3 hd (by decide) rfl rfl)
  clear hd hg
  go_wp2_with fail
  refine(T1.out _).mono ?_;rintro e w' ⟨rfl,hb⟩;go_wp2;exact⟨_,rfl,hb,rfl⟩
 (try simp only[pq])
 refine inv_cons (fun wx hg hd=>?_) (fun v5=>?_)
 ·have hx:=hxo w2 hg
  clear hd hg;obtain⟨⟨k1,k2⟩,⟨k3,k4⟩,⟨k5,k6⟩,_⟩:=HC.out _ hx;go_wp2;exact⟨_,rfl,br,rfl⟩
 (try simp only[pq])
 refine inv_cons (fun wx hg hd=>?_) (fun v6=>?_)
 ·have hx:=hxo w2 hg
  (try cases gk 4 hd (by decide) rfl rfl)
  (try cases gk 5 hd (by decide) rfl rfl)
  clear hd hg
  go_wp2_with fail
  refine(M1.out _).mono ?_;rintro e w' ⟨rfl,hb⟩;go_wp2;exact⟨_,rfl,hb,rfl⟩
 (try simp only[pq])
 refine inv_cons (fun wx hg hd=>?_) (fun v7=>?_)
 ·have hx:=hxo w2 hg
  (try cases gk 6 hd (by decide) rfl rfl)
  clear hd hg
  go_wp2_with fail
  refine(S1.out _).mono ?_;rintro e w' ⟨rfl,hb⟩;go_wp2;exact⟨_,rfl,hb,rfl⟩
 (try simp only[pq])
 refine inv_cons (fun wx hg hd=>?_) (fun v8=>?_)
 ·have hx:=hxo w2 hg
  (try cases gk 7 hd (by decide) rfl rfl)
  clear hd hg;go_wp2;exact⟨_,rfl,br,rfl⟩
 (try simp only[pq])
 refine inv_cons (fun wx hg hd=>?_) (fun v9=>?_)
 ·have hx:=hxo w2 hg
  (try cases gk 8 hd (by decide) rfl rfl)
  clear hd hg;go_wp2;exact⟨_,rfl,br,rfl⟩
 (try simp only[pq])
 refine inv_cons (fun wx hg hd=>?_) (fun v10=>?_)
 ·have hx:=hxo w2 hg
  (try cases gk 8 hd (by decide) rfl rfl)
  clear hd hg;go_wp2;exact⟨_,rfl,br,rfl⟩
 (try simp only[pq])
 refine inv_cons (fun wx hg hd=>?_) (fun v11=>?_)
 ·have hx:=hxo w2 hg
  (try cases gk 9 hd (by decide) rfl rfl)
  clear hd hg;go_wp2;exact⟨_,rfl,br,rfl⟩
 (try simp only[pq])
 refine inv_cons (fun wx hg hd=>?_) (fun v12=>?_)
 ·have hx:=hxo w2 hg
  (try cases gk 10 hd (by decide) rfl rfl)
  clear hd hg;go_wp2;exact⟨_,rfl,br,rfl⟩
 (try simp only[pq])
 refine inv_done (fun wx hg hd=>?_);have hx:=hxo w2 hg
 cases gl hd rfl
 clear hd hg
 (try go_simp)
 have hq2:Hid (Below w.heap.size w wx):=hq.out.trans (hx.mono (by have:=hq.out.size;omega));have HC2:Hid (∀ wy,Below wx.heap.size wx wy->Two wy w.heap.size (.int .i64 a) (.int .i64 b)/\Two wy (w.heap.size+1) (.int .i64 c) (.int .i64 d)/\Two wy w1.heap.size (.int .i64 (hW bd)) (.int .u64 (lW bd))/\Two2 wy (w.heap.size+2) (.int .i64 0) (.int .i64 0)):=fun wy hy=>HC.out _ (hx.trans (hy.mono hx.size))
 have hz3:w.heap.size+2<wx.heap.size:=by have:=hx.size;omega
 clear HC hq hx;generalize wx=w3 at*
 go_upto_region 4 with(fail)
 refine wp_region_inv (fun w w'=>Below w.heap.size w w') (fun qi_ qv_ _=>qv_=([.func (.func 110) #[] #[],.func (.func 110) #[] #[],.pointer (some ⟨w.heap.size,0,none⟩),.int .i64 a,.pointer (some ⟨w.heap.size+1,1,none⟩),.int .i64 d,.agg #[.int .i64 (hW ad),.int .u64 (lW ad)],.pointer (some ⟨w.heap.size,1,none⟩),.int .i64 b,.pointer (some ⟨w.heap.size+1,0,none⟩),.int .i64 c,.agg #[.int .i64 (hW bc),.int .u64 (lW bc)],.agg #[.int .i64 (hW (ad+bc)),.int .u64 (lW (ad+bc))],.agg #[.int .i64 (hW bd),.int .u64 (lW bd)],.agg #[.int .i64 (hW (ad+bc+bd)),.int .u64 (lW (ad+bc+bd))],.tuple #[.int .i64 (ad+bc+bd),.bool true],.tuple #[.int .i64 (ad+bc+bd),.bool true],.int .i64 (ad+bc+bd),.bool true,.int .i64 (ad+bc+bd),.bool true]:List Value).getD qi_ undef) (by kernel_rfl) (by kernel_rfl) (fun _=>br) (fun _ _ _ h1 h2=>below_later h1 h1.size h2) (fun _ _ _ _ _ _ h=>h) ?_;refine inv_cons (fun wx hg hd=>?_) (fun v0=>?_)
 ·have hx:=hxo w3 hg
  clear hd hg;go_wp2;exact⟨_,rfl,br,rfl⟩
 (try simp only[pq])
 refine inv_cons (fun wx hg hd=>?_) (fun v1=>?_)
 ·have hx:=hxo w3 hg
  clear hd hg;go_wp2;exact⟨_,rfl,br,rfl⟩
 (try simp only[pq])
 refine inv_cons (fun wx hg hd=>?_) (fun v2=>?_)
 ·have hx:=hxo w3 hg
  clear hd hg;go_wp2;exact⟨_,rfl,br,rfl⟩
 (try simp only[pq])
 refine inv_cons (fun wx hg hd=>?_) (fun v3=>?_)
 ·have hx:=hxo w3 hg
  (try cases gk 2 hd (by decide) rfl rfl)
  clear hd hg;obtain⟨⟨k1,k2⟩,⟨k3,k4⟩,⟨k5,k6⟩,_⟩:=HC2.out _ hx;go_wp2;exact⟨_,rfl,br,rfl⟩
 (try simp only[pq])
 refine inv_cons (fun wx hg hd=>?_) (fun v4=>?_)
 ·have hx:=hxo w3 hg
  clear hd hg;go_wp2;exact⟨_,rfl,br,rfl⟩
 (try simp only[pq])
 refine inv_cons (fun wx hg hd=>?_) (fun v5=>?_)
 ·have hx:=hxo w3 hg
  (try cases gk 4 hd (by decide) rfl rfl)
  clear hd hg;obtain⟨⟨k1,k2⟩,⟨k3,k4⟩,⟨k5,k6⟩,_⟩:=HC2.out _ hx;go_wp2;exact⟨_,rfl,br,rfl⟩
 (try simp only[pq])
 refine inv_cons (fun wx hg hd=>?_) (fun v6=>?_)
 ·have hx:=hxo w3 hg
  (try cases gk 3 hd (by decide) rfl rfl)
  (try cases gk 5 hd (by decide) rfl rfl)
  clear hd hg
  go_wp2_with fail
  refine(T3.out _).mono ?_;rintro e w' ⟨rfl,hb⟩;go_wp2;exact⟨_,rfl,hb,rfl⟩
 (try simp only[pq])
 refine inv_cons (fun wx hg hd=>?_) (fun v7=>?_)
 ·have hx:=hxo w3 hg
  clear hd hg;go_wp2;exact⟨_,rfl,br,rfl⟩
 (try simp only[pq])
 refine inv_cons (fun wx hg hd=>?_) (fun v8=>?_)
 ·have hx:=hxo w3 hg
  (try cases gk 7 hd (by decide) rfl rfl)
  clear hd hg;obtain⟨⟨k1,k2⟩,⟨k3,k4⟩,⟨k5,k6⟩,_⟩:=HC2.out _ hx;go_wp2;exact⟨_,rfl,br,rfl⟩
 (try simp only[pq])
 refine inv_cons (fun wx hg hd=>?_) (fun v9=>?_)
 ·have hx:=hxo w3 hg
  clear hd hg;go_wp2;exact⟨_,rfl,br,rfl⟩
 (try simp only[pq])
 refine inv_cons (fun wx hg hd=>?_) (fun v10=>?_)
 ·have hx:=hxo w3 hg
  (try cases gk 9 hd (by decide) rfl rfl)
  clear hd hg;obtain⟨⟨k1,k2⟩,⟨k3,k4⟩,⟨k5,k6⟩,_⟩:=HC2.out _ hx;go_wp2;exact⟨_,rfl,br,rfl⟩
 (try simp only[pq])
 refine inv_cons (fun wx hg hd=>?_) (fun v11=>?_)
 ·have hx:=hxo w3 hg
  (try cases gk 8 hd (by decide) rfl rfl)
  (try cases gk 10 hd (by decide) rfl rfl)
  clear hd hg
  go_wp2_with fail
  refine(T4.out _).mono ?_;rintro e w' ⟨rfl,hb⟩;go_wp2;exact⟨_,rfl,hb,rfl⟩
 (try simp only[pq])
 refine inv_cons (fun wx hg hd=>?_) (fun v12=>?_)
 ·have hx:=hxo w3 hg
  (try cases gk 1 hd (by decide) rfl rfl)
  (try cases gk 6 hd (by decide) rfl rfl)
  (try cases gk 11 hd (by decide) rfl rfl)
  clear hd hg
  go_wp2_with fail
  refine(P1.out _).mono ?_;rintro e w' ⟨rfl,hb⟩;go_wp2;exact⟨_,rfl,hb,rfl⟩
 (try simp only[pq])
 refine inv_cons (fun wx hg hd=>?_) (fun v13=>?_)
 ·have hx:=hxo w3 hg
  clear hd hg;obtain⟨⟨k1,k2⟩,⟨k3,k4⟩,⟨k5,k6⟩,_⟩:=HC2.out _ hx;go_wp2;exact⟨_,rfl,br,rfl⟩
 (try simp only[pq])
 refine inv_cons (fun wx hg hd=>?_) (fun v14=>?_)
 ·have hx:=hxo w3 hg
  (try cases gk 0 hd (by decide) rfl rfl)
  (try cases gk 12 hd (by decide) rfl rfl)
  (try cases gk 13 hd (by decide) rfl rfl)
  clear hd hg
  go_wp2_with fail
  refine(P2.out _).mono ?_;rintro e w' ⟨rfl,hb⟩;go_wp2;exact⟨_,rfl,hb,rfl⟩
 (try simp only[pq])
 refine inv_cons (fun wx hg hd=>?_) (fun v15=>?_)
 ·have hx:=hxo w3 hg
  (try cases gk 14 hd (by decide) rfl rfl)
  clear hd hg
  go_wp2_with fail
  refine(S2.out _).mono ?_;rintro e w' ⟨rfl,hb⟩;go_wp2;exact⟨_,rfl,hb,rfl⟩
 (try simp only[pq])
 refine inv_cons (fun wx hg hd=>?_) (fun v16=>?_)
 ·have hx:=hxo w3 hg
  (try cases gk 15 hd (by decide) rfl rfl)
  clear hd hg;go_wp2;exact⟨_,rfl,br,rfl⟩
 (try simp only[pq])
 refine inv_cons (fun wx hg hd=>?_) (fun v17=>?_)
 ·have hx:=hxo w3 hg
  (try cases gk 16 hd (by decide) rfl rfl)
  clear hd hg;go_wp2;exact⟨_,rfl,br,rfl⟩
 (try simp only[pq])
 refine inv_cons (fun wx hg hd=>?_) (fun v18=>?_)
 ·have hx:=hxo w3 hg
  (try cases gk 16 hd (by decide) rfl rfl)
  clear hd hg;go_wp2;exact⟨_,rfl,br,rfl⟩
 (try simp only[pq])
 refine inv_cons (fun wx hg hd=>?_) (fun v19=>?_)
 ·have hx:=hxo w3 hg
  (try cases gk 17 hd (by decide) rfl rfl)
  clear hd hg;go_wp2;exact⟨_,rfl,br,rfl⟩
 (try simp only[pq])
 refine inv_cons (fun wx hg hd=>?_) (fun v20=>?_)
 ·have hx:=hxo w3 hg
  (try cases gk 18 hd (by decide) rfl rfl)
  clear hd hg;go_wp2;exact⟨_,rfl,br,rfl⟩
 (try simp only[pq])
 refine inv_done (fun wx hg hd=>?_);have hx:=hxo w3 hg
 cases gl hd rfl
 clear hd hg
 (try go_simp)
 have hq3:Hid (Below w.heap.size w wx):=hq2.out.trans (hx.mono hq2.out.size);obtain⟨-,-,-,h5⟩:=HC2.out _ hx;have hz3:w.heap.size+2<w3.heap.size:=hz3;have hz4:=hx.size;clear HC2 hq2 hx
 go_wp2_with fail
 refine(both_in _ _ _).mono ?_;rintro e w5 ⟨rfl,hb5⟩;obtain⟨⟨c0,c1⟩,f0,f1⟩:=h5.later (by omega) hb5;have hq4:=Hd (hq3.out.trans (hb5.mono hq3.out.size));clear hb5;go_wp2;exact bodyPost_ret (v:=.tuple #[.agg #[.int .i64 (ac-bd),.int .i64 (ad+bc+bd)],.bool true]) (by simp[results,Tryz.results71,go_sem, *]) rfl ⟨rfl,(hq4.out.setCell (p:=⟨w.heap.size+1+1,0,none⟩) (by simp;omega) _).setCell (p:=⟨w.heap.size+1+1,1,none⟩) (by simp;omega) _⟩
abbrev vE(z:E2):Value:=.agg #[.int .i64 z.1,.int .i64 z.2]
theorem sides_nadd(a b c d x y:Int)(h1:∀w,Calls Tryz.prog 105 #[.int .i64 a,.int .i64 c] w fun e w'=>e=.returned (.tuple #[.int .i64 x,.bool true])/\w'=w)
  (h2:∀w,Calls Tryz.prog 105 #[.int .i64 b,.int .i64 d] w fun e w'=>e=.returned (.tuple #[.int .i64 y,.bool true])/\w'=w) (w:World):
  Calls Tryz.prog 104 #[.agg #[.int .i64 a,.int .i64 b],.agg #[.int .i64 c,.int .i64 d],.func (.func 105) #[] #[]] w fun e w'=>e=.returned (.tuple #[.agg #[.int .i64 x,.int .i64 y],.bool true])/\Below w.heap.size w w':=by
 have H1:=Hd h1;have H2:=Hd h2;clear h1 h2
 go_enter Tryz.func104,Tryz.ntmps104
 go_wp2_with fail
 refine(H1.out _).mono ?_;rintro e w1 ⟨rfl,rfl⟩
 go_wp2_with fail
 refine(H2.out _).mono ?_;rintro e w1 ⟨rfl,rfl⟩
 go_wp2_with fail
 refine(both_in _ _ _).mono ?_;rintro e w1 ⟨rfl,hb⟩;have h5:Two2 w1 (w.heap.size+2) (.int .i64 0) (.int .i64 0):=(Two2.of_row (t:=37) (heap_new _ _ _ (by simp))).later (by simp) hb;obtain⟨⟨c0,c1⟩,f0,f1⟩:=h5;have hz:=hb.size;simp at hz;have hq:Hid (Below w.heap.size w w1):=((br.alloc lr _).alloc (by simp) _).alloc (by simp;omega) _ |>.trans (hb.mono (by simp;omega))
 clear hb H1 H2;go_wp2;exact bodyPost_ret (v:=.tuple #[.agg #[.int .i64 x,.int .i64 y],.bool true]) (by simp[results,Tryz.results104,go_sem, *]) rfl ⟨rfl,(hq.out.setCell (p:=⟨w.heap.size+1+1,0,none⟩) (by simp;omega) _).setCell (p:=⟨w.heap.size+1+1,1,none⟩) (by simp;omega) _⟩
theorem sides_nsub(a b c d x y:Int)(h1:∀w,Calls Tryz.prog 182 #[.int .i64 a,.int .i64 c] w fun e w'=>e=.returned (.tuple #[.int .i64 x,.bool true])/\w'=w)
  (h2:∀w,Calls Tryz.prog 182 #[.int .i64 b,.int .i64 d] w fun e w'=>e=.returned (.tuple #[.int .i64 y,.bool true])/\w'=w) (w:World):
  Calls Tryz.prog 104 #[.agg #[.int .i64 a,.int .i64 b],.agg #[.int .i64 c,.int .i64 d],.func (.func 182) #[] #[]] w fun e w'=>e=.returned (.tuple #[.agg #[.int .i64 x,.int .i64 y],.bool true])/\Below w.heap.size w w':=by
 have H1:=Hd h1;have H2:=Hd h2;clear h1 h2
 go_enter Tryz.func104,Tryz.ntmps104
 go_wp2_with fail
 refine(H1.out _).mono ?_;rintro e w1 ⟨rfl,rfl⟩
 go_wp2_with fail
 refine(H2.out _).mono ?_;rintro e w1 ⟨rfl,rfl⟩
 go_wp2_with fail
 refine(both_in _ _ _).mono ?_;rintro e w1 ⟨rfl,hb⟩;have h5:Two2 w1 (w.heap.size+2) (.int .i64 0) (.int .i64 0):=(Two2.of_row (t:=37) (heap_new _ _ _ (by simp))).later (by simp) hb;obtain⟨⟨c0,c1⟩,f0,f1⟩:=h5;have hz:=hb.size;simp at hz;have hq:Hid (Below w.heap.size w w1):=((br.alloc lr _).alloc (by simp) _).alloc (by simp;omega) _ |>.trans (hb.mono (by simp;omega))
 clear hb H1 H2;go_wp2;exact bodyPost_ret (v:=.tuple #[.agg #[.int .i64 x,.int .i64 y],.bool true]) (by simp[results,Tryz.results104,go_sem, *]) rfl ⟨rfl,(hq.out.setCell (p:=⟨w.heap.size+1+1,0,none⟩) (by simp;omega) _).setCell (p:=⟨w.heap.size+1+1,1,none⟩) (by simp;omega) _⟩
def Sm(h:Int)(z:E2):Prop:= -h<=z.1/\z.1<=h/\ -h<=z.2/\z.2<=h
theorem add_in(y z:E2)(hy:Sm 4611686018427387903 y)(hz:Sm 4611686018427387903 z)(w:World):
  Calls Tryz.prog 66 #[vE y,vE z] w fun e w'=>e=.returned (.tuple #[vE (addE y z),.bool true])/\Below w.heap.size w w':=by
 obtain⟨a,b⟩:=y;obtain⟨c,d⟩:=z;unfold Sm at hy hz;simp only at hy hz;have HS:=Hd (sides_nadd a b c d (a+c) (b+d) (nadd_in a c (by omega) (by omega) (by omega) (by omega)) (nadd_in b d (by omega) (by omega) (by omega) (by omega)));clear hy hz;show Calls Tryz.prog 66 #[.agg #[.int .i64 a,.int .i64 b],.agg #[.int .i64 c,.int .i64 d]] w fun e w'=>e=.returned (.tuple #[.agg #[.int .i64 (a+c),.int .i64 (b+d)],.bool true])/\Below w.heap.size w w'
 generalize a+c=x at *;generalize b+d=y at*
 go_enter Tryz.func66,Tryz.ntmps66
 go_wp2_with fail
 refine(HS.out _).mono ?_;rintro e w1 ⟨rfl,hb⟩;have h5:Two2 w1 (w.heap.size+2) (.int .i64 0) (.int .i64 0):=(Two2.of_row (t:=37) (heap_new _ _ _ (by simp))).later (by simp) hb;obtain⟨⟨c0,c1⟩,f0,f1⟩:=h5;have hz:=hb.size;simp at hz;have hq:Hid (Below w.heap.size w w1):=((br.alloc lr _).alloc (by simp) _).alloc (by simp;omega) _ |>.trans (hb.mono (by simp;omega))
 clear hb HS;go_wp2;exact bodyPost_ret (v:=.tuple #[.agg #[.int .i64 x,.int .i64 y],.bool true]) (by simp[results,Tryz.results66,go_sem, *]) rfl ⟨rfl,(hq.out.setCell (p:=⟨w.heap.size+1+1,0,none⟩) (by simp;omega) _).setCell (p:=⟨w.heap.size+1+1,1,none⟩) (by simp;omega) _⟩
theorem sub_in(y z:E2)(hy:Sm 4611686018427387903 y)(hz:Sm 4611686018427387903 z)(w:World):
  Calls Tryz.prog 174 #[vE y,vE z] w fun e w'=>e=.returned (.tuple #[vE (subE y z),.bool true])/\Below w.heap.size w w':=by
 obtain⟨a,b⟩:=y;obtain⟨c,d⟩:=z;unfold Sm at hy hz;simp only at hy hz;have HS:=Hd (sides_nsub a b c d (a-c) (b-d) (nsub_in a c (by omega) (by omega) (by omega) (by omega)) (nsub_in b d (by omega) (by omega) (by omega) (by omega)));clear hy hz;show Calls Tryz.prog 174 #[.agg #[.int .i64 a,.int .i64 b],.agg #[.int .i64 c,.int .i64 d]] w fun e w'=>e=.returned (.tuple #[.agg #[.int .i64 (a-c),.int .i64 (b-d)],.bool true])/\Below w.heap.size w w'
 generalize a-c=x at *;generalize b-d=y at*
 go_enter Tryz.func174,Tryz.ntmps174
 go_wp2_with fail
 refine(HS.out _).mono ?_;rintro e w1 ⟨rfl,hb⟩;have h5:Two2 w1 (w.heap.size+2) (.int .i64 0) (.int .i64 0):=(Two2.of_row (t:=37) (heap_new _ _ _ (by simp))).later (by simp) hb;obtain⟨⟨c0,c1⟩,f0,f1⟩:=h5;have hz:=hb.size;simp at hz;have hq:Hid (Below w.heap.size w w1):=((br.alloc lr _).alloc (by simp) _).alloc (by simp;omega) _ |>.trans (hb.mono (by simp;omega))
 clear hb HS;go_wp2;exact bodyPost_ret (v:=.tuple #[.agg #[.int .i64 x,.int .i64 y],.bool true]) (by simp[results,Tryz.results174,go_sem, *]) rfl ⟨rfl,(hq.out.setCell (p:=⟨w.heap.size+1+1,0,none⟩) (by simp;omega) _).setCell (p:=⟨w.heap.size+1+1,1,none⟩) (by simp;omega) _⟩
theorem neg_in(a:Int)(h1: -4611686018427387903<=a)(h2:a<=4611686018427387903)(w:World):
  Calls Tryz.prog 170 #[.int .i64 a] w fun e w'=>e=.returned (.tuple #[.int .i64 (-a),.bool true])/\w'=w:=by
 have H:=Hd (nsub_in 0 a (by omega) (by omega) (by omega) (by omega));rw[Int.zero_sub]at H;generalize -a=b at*
 go_enter Tryz.func170,Tryz.ntmps170
 go_wp2_with fail
 refine(H.out _).mono ?_;rintro e w1 ⟨rfl,rfl⟩;go_wp2;go_ret2;exact⟨rfl,rfl⟩
theorem conj_in(z:E2)(hz:Sm 1152921504606846976 z)(w:World):
  Calls Tryz.prog 143 #[vE z] w fun e w'=>e=.returned (.tuple #[.agg #[.int .i64 (z.1+z.2),.int .i64 (-z.2)],.bool true])/\Below w.heap.size w w':=by
 obtain⟨a,b⟩:=z;unfold Sm at hz;simp only at hz ⊢;have H1:=Hd (nadd_in a b (by omega) (by omega) (by omega) (by omega));have H2:=Hd (neg_in b (by omega) (by omega));clear hz;generalize a+b=x at *;generalize -b=y at*
 go_enter Tryz.func143,Tryz.ntmps143
 go_wp2_with fail
 refine(H1.out _).mono ?_;rintro e w1 ⟨rfl,rfl⟩
 go_wp2_with fail
 refine(H2.out _).mono ?_;rintro e w1 ⟨rfl,rfl⟩
 go_wp2_with fail
 refine(both_in _ _ _).mono ?_;rintro e w1 ⟨rfl,hb⟩;have h5:Two2 w1 (w.heap.size+1) (.int .i64 0) (.int .i64 0):=(Two2.of_row (t:=37) (heap_new _ _ _ (by simp))).later (by simp) hb;obtain⟨⟨c0,c1⟩,f0,f1⟩:=h5;have hz:=hb.size;simp at hz;have hq:Hid (Below w.heap.size w w1):=(br.alloc lr _).alloc (by simp) _ |>.trans (hb.mono (by simp;omega))
 clear hb H1 H2;go_wp2;exact bodyPost_ret (v:=.tuple #[.agg #[.int .i64 x,.int .i64 y],.bool true]) (by simp[results,Tryz.results143,go_sem, *]) rfl ⟨rfl,(hq.out.setCell (p:=⟨w.heap.size+1,0,none⟩) (by simp) _).setCell (p:=⟨w.heap.size+1,1,none⟩) (by simp) _⟩
theorem unit_in(k:Nat)(hk:k<6)(w:World):
  Calls Tryz.prog 67 #[.int .i64 k] w fun e w'=>e=.returned (vE (unitE k))/\Below w.heap.size w w':=by
 have hu:(k=0/\unitE k=(1,0))∨(k=1/\unitE k=(0,1))∨(k=2/\unitE k=(-1,1))∨(k=3/\unitE k=(-1,0))∨(k=4/\unitE k=(0,-1))∨(k=5/\unitE k=(1,-1)):=by
  rcases(show k=0∨k=1∨k=2∨k=3∨k=4∨k=5 by omega)with rfl|rfl|rfl|rfl|rfl|rfl <;> simp[unitE]
 rcases hu with⟨rfl,e⟩|⟨rfl,e⟩|⟨rfl,e⟩|⟨rfl,e⟩|⟨rfl,e⟩|⟨rfl,e⟩ <;> rw[e] <;> clear e hk <;>
 ·go_enter Tryz.func67,Tryz.ntmps67
  go_wp2;exact bodyPost_ret (by simp[results,Tryz.results67,go_sem]) rfl ⟨rfl,by
   exact(br.alloc lr _).alloc (by simp) _⟩
theorem floor_in(a d:Int)(hd:0<d)(hd2:d<=4611686018427387903)(h1: -4611686018427387904<=a)(h2:a<=4611686018427387903)(w:World):
  Calls Tryz.prog 173 #[.int .i64 a,.int .i64 d] w fun e w'=>e=.returned (.tuple #[.int .i64 (a/d),.int .i64 (a%d),.bool true])/\Below w.heap.size w w':=
 (floor_any a d hd hd2 h1 h2 w).mono fun _ _ ⟨he,n,hn⟩=>⟨he,by rw[hn];exact below_drewN br n⟩
theorem Two2.put{w:World}{g:Nat}{u v:Value}(h:Two2 w g u v)(x y:Value):Two2 ((w.setCell ⟨g,0,none⟩ x).setCell ⟨g,1,none⟩ y) g x y/\Turn (fun q=>q=g) w ((w.setCell ⟨g,0,none⟩ x).setCell ⟨g,1,none⟩ y):=by
 obtain⟨⟨h0,h1⟩,f0,f1⟩:=h;refine⟨⟨⟨?_,?_⟩,by simpa using f0,by simpa using f1⟩,((Turn.refl (fun q=>q=g) w).setCell (a:=⟨g,0,none⟩) rfl _).setCell (a:=⟨g,1,none⟩) rfl _⟩
 ·exact(World.cell?_setCell_other _ _ _ _ (fun e=>by cases e)).trans (World.cell?_setCell_same _ _ _ h0)
 ·exact World.cell?_setCell_same _ _ _ (u:=v) ((World.cell?_setCell_other w ⟨g,0,none⟩ ⟨g,1,none⟩ _ (fun e=>by cases e)).trans h1)
def bst1(s t d:Int):Int×E2:=if d-(s+2*t)<0 then(d-(s+2*t),(0,1))else(0,(0,0))
def bst2(s t d:Int):Int×E2:=if d-(2*s+t)<(bst1 s t d).1 then(d-(2*s+t),(1,0))else bst1 s t d
def bst3(s t d:Int):Int×E2:=if 3*d-(2*s+t)-(s+2*t)<(bst2 s t d).1 then(3*d-(2*s+t)-(s+2*t),(1,1))else bst2 s t d
def bstE(s t d:Int):Nat->Int×E2
 |0=>(0,(0,0))
 |1=>bst1 s t d
 |2=>bst2 s t d
 |_=>bst3 s t d
theorem bst_best(s t d:Int):(bstE s t d 3).2=bestE s t d:=rfl
theorem bst_in{s t d:Int}(hs:0<=s)(hs1:s<d)(ht:0<=t)(ht1:t<d)(k:Nat): -(3*d)<=(bstE s t d k).1/\(bstE s t d k).1<=0/\0<=(bstE s t d k).2.1/\(bstE s t d k).2.1<=1/\0<=(bstE s t d k).2.2/\(bstE s t d k).2.2<=1:=by
 have h0:∀p:Int×E2,p=(0,(0,0))-> -(3*d)<=p.1/\p.1<=0/\0<=p.2.1/\p.2.1<=1/\0<=p.2.2/\p.2.2<=1:=fun p e=>by subst e;simp only;omega
 have h1: -(3*d)<=(bstE s t d 1).1/\(bstE s t d 1).1<=0/\0<=(bstE s t d 1).2.1/\(bstE s t d 1).2.1<=1/\0<=(bstE s t d 1).2.2/\(bstE s t d 1).2.2<=1:=by
  rw[show bstE s t d 1=bst1 s t d from rfl];unfold bst1;split <;> simp only <;> omega
 have h2: -(3*d)<=(bstE s t d 2).1/\(bstE s t d 2).1<=0/\0<=(bstE s t d 2).2.1/\(bstE s t d 2).2.1<=1/\0<=(bstE s t d 2).2.2/\(bstE s t d 2).2.2<=1:=by
  rw[show bstE s t d 2=if d-(2*s+t)<(bstE s t d 1).1 then(d-(2*s+t),(1,0))else bstE s t d 1 from rfl]
  split
  ·simp only;omega
  ·exact h1
 match k with
 |0=>exact h0 _ rfl
 |1=>exact h1
 |2=>exact h2
 |k+3=>
  rw[show bstE s t d (k+3)=if 3*d-(2*s+t)-(s+2*t)<(bstE s t d 2).1 then(3*d-(2*s+t)-(s+2*t),(1,1))else bstE s t d 2 from rfl]
  split
  ·simp only;omega
  ·exact h2
theorem round_in(u:E2)(d:Int)(hd:1<=d)(hd2:d<=1125899906842624)(hu:Sm 1152921504606846976 u)(w:World):
  Calls Tryz.prog 145 #[vE u,.int .i64 d] w fun e w'=>e=.returned (.tuple #[vE (roundE u d),.bool true])/\Below w.heap.size w w':=by
 obtain⟨a,b⟩:=u;unfold Sm at hu;simp only at hu;obtain⟨hu1,hu2,hu3,hu4⟩:=hu;have W1:Hid (∀ w,Calls Tryz.prog 116 #[.int .i64 a,.int .i64 1152921504606846976] w fun e w'=>e=.returned (.bool true)/\w'=w):=fun w=>by
  have:=within_any a 1152921504606846976 (by omega) (by omega) w;rw[show (decide (-1152921504606846976<=a)&&decide (a<=1152921504606846976))=true by simp;omega]at this;exact this
 have W2:Hid (∀ w,Calls Tryz.prog 116 #[.int .i64 b,.int .i64 1152921504606846976] w fun e w'=>e=.returned (.bool true)/\w'=w):=fun w=>by
  have:=within_any b 1152921504606846976 (by omega) (by omega) w;rw[show (decide (-1152921504606846976<=b)&&decide (b<=1152921504606846976))=true by simp;omega]at this;exact this
 have F1:=Hd (floor_in a d (by omega) (by omega) (by omega) (by omega));have F2:=Hd (floor_in b d (by omega) (by omega) (by omega) (by omega));have HR:Hid (roundE (a,b) d=(a/d+(bstE (a%d) (b%d) d 3).2.1,b/d+(bstE (a%d) (b%d) d 3).2.2)):=by
  show _=_;unfold roundE addE;rw[bst_best,best_corner (Int.emod_nonneg _ (by omega)) (Int.emod_lt_of_pos _ (by omega)) (Int.emod_nonneg _ (by omega)) (Int.emod_lt_of_pos _ (by omega))]
 have hs0:=Int.emod_nonneg a (show d≠0 by omega);have hs1:=Int.emod_lt_of_pos a (show 0<d by omega);have ht0:=Int.emod_nonneg b (show d≠0 by omega);have ht1:=Int.emod_lt_of_pos b (show 0<d by omega);have hq1: -1154047404513689600<=a/d/\a/d<=1152921504606846976:=by
  have h1:=Int.mul_ediv_add_emod a d;constructor
  ·rcases Int.lt_or_le (a/d) 0 with h|h
   ·have:=Int.mul_le_mul_of_nonpos_right (show(1:Int)<=d by omega) (show a/d<=0 by omega)
    omega
   ·omega
  ·rcases Int.lt_or_le (a/d) 0 with h|h
   ·omega
   ·have:=Int.mul_le_mul_of_nonneg_right (show(1:Int)<=d by omega) h
    omega
 have hq2: -1154047404513689600<=b/d/\b/d<=1152921504606846976:=by
  have h1:=Int.mul_ediv_add_emod b d;constructor
  ·rcases Int.lt_or_le (b/d) 0 with h|h
   ·have:=Int.mul_le_mul_of_nonpos_right (show(1:Int)<=d by omega) (show b/d<=0 by omega)
    omega
   ·omega
  ·rcases Int.lt_or_le (b/d) 0 with h|h
   ·omega
   ·have:=Int.mul_le_mul_of_nonneg_right (show(1:Int)<=d by omega) h
    omega
 obtain⟨hq1a,hq1b⟩:=hq1;obtain⟨hq2a,hq2b⟩:=hq2;show Calls Tryz.prog 145 #[.agg #[.int .i64 a,.int .i64 b],.int .i64 d] w _;generalize roundE (a,b) d=z at *;generalize a/d=qa at *;generalize b/d=qb at *;generalize a%d=s at *;generalize b%d=t at *;have q0:decide (d<1)=false:=by simp;omega
 have q1:decide (1125899906842624<d)=false:=by simp;omega
 go_enter Tryz.func145,Tryz.ntmps145
 go_wp2_with fail
 refine(W1.out _).mono ?_;rintro e w1 ⟨rfl,rfl⟩
 go_wp2_with fail
 refine(W2.out _).mono ?_;rintro e w1 ⟨rfl,rfl⟩
 go_wp2_with fail
 refine(F1.out _).mono ?_;rintro e w1 ⟨rfl,hb1⟩;have h2:Two w1 w.heap.size (.int .i64 a) (.int .i64 b):=(Two.of_row (t:=37) (f:=_) (by rw[Below.heap_alloc _ _ _ (by simp)];exact heap_new _ _ _ rfl)).later (by simp;omega) hb1;have h5:Two2 w1 (w.heap.size+1) (.int .i64 0) (.int .i64 0):=(Two2.of_row (t:=37) (heap_new _ _ _ (by simp))).later (by simp) hb1;have hz:=hb1.size;simp at hz;have hq:Hid (Below w.heap.size w w1):=(br.alloc lr _).alloc (by simp) _ |>.trans (hb1.mono (by simp;omega))
 obtain⟨c0,c1⟩:=h2;have H5:=Hd h5;clear hb1 h5
 go_wp2_with fail
 refine(F2.out _).mono ?_;rintro e w2 ⟨rfl,hb2⟩;have h5:=H5.out.later (by omega) hb2;have hq2:=Hd (hq.out.trans (hb2.mono hq.out.size));have hz2:=hb2.size;have hz1:=hq2.out.size;have hgz:w.heap.size+1<w2.heap.size:=by omega
 have HA:Hid (Two2 (w2.alloc (.cells #[.int .i64 0,.int .i64 0] 37)) w2.heap.size (.int .i64 0) (.int .i64 0)):=Two2.of_row (t:=37) (heap_new _ _ _ rfl);have H5:=Hd (h5.later (by omega) (br.alloc lr (.cells #[.int .i64 0,.int .i64 0] 37)));have HB:=Hd (hq2.out.alloc (by omega) (.cells #[.int .i64 0,.int .i64 0] 37));clear hq hq2 h5 c0 c1 hz F1 F2 W1 W2
 go_upto_region 6 with(fail)
 generalize hw3:w2.alloc (.cells #[.int .i64 0,.int .i64 0] 37)=w3 at *;obtain⟨g,hg⟩:∃g,w2.heap.size=g:=⟨_,rfl⟩;rw[hg]at HA ⊢;have hgw:g<w3.heap.size:=by rw[<- hw3,World.size_alloc];omega
 have hgr:w.heap.size+1<g:=by rw[<- hg];exact hgz
 clear hw3 hg hz1 hz2 hgz;have hL:=heap_new w3 (.cells #[.int .i64 0,.int .i64 1,.int .i64 1,.int .i64 0,.int .i64 1,.int .i64 1] 37) _ rfl;have hA4:=HA.out.later hgw (br.alloc lr (.cells #[.int .i64 0,.int .i64 1,.int .i64 1,.int .i64 0,.int .i64 1,.int .i64 1] 37));have h54:=H5.out.later (by omega) (br.alloc lr (.cells #[.int .i64 0,.int .i64 1,.int .i64 1,.int .i64 0,.int .i64 1,.int .i64 1] 37));have hB4:=HB.out.alloc (by omega) (.cells #[.int .i64 0,.int .i64 1,.int .i64 1,.int .i64 0,.int .i64 1,.int .i64 1] 37);have hs4:=World.size_alloc w3 (.cells #[.int .i64 0,.int .i64 1,.int .i64 1,.int .i64 0,.int .i64 1,.int .i64 1] 37);go_wp2;generalize w3.alloc (.cells #[.int .i64 0,.int .i64 1,.int .i64 1,.int .i64 0,.int .i64 1,.int .i64 1] 37)=w4 at *;obtain⟨l,hl⟩:∃l,w3.heap.size=l:=⟨_,rfl⟩;rw[hl]at hL hs4 hgw ⊢;have HK:Hid (∀ wr,Turn (fun q=>q=g) w4 wr->(wr.cell? ⟨l,0,none⟩=some (.int .i64 0)/\wr.cell? ⟨l,1,none⟩=some (.int .i64 1)/\wr.cell? ⟨l,2,none⟩=some (.int .i64 1)/\wr.cell? ⟨l,3,none⟩=some (.int .i64 0)/\wr.cell? ⟨l,4,none⟩=some (.int .i64 1)/\wr.cell? ⟨l,5,none⟩=some (.int .i64 1))/\(Two2 wr (w.heap.size+1) (.int .i64 0) (.int .i64 0))/\Below w.heap.size w wr/\g<wr.heap.size/\l<wr.heap.size):=fun wr ht=>by
  have hh:wr.heap[l]? =_:=(ht.2.2.2.2 l (by omega) (by omega)).trans hL;have e1:wr.heap[w.heap.size+1]? =w4.heap[w.heap.size+1]? :=ht.2.2.2.2 _ (by omega) (by omega);have:=ht.2.2.2.1;refine⟨⟨cell_of_row _ _ 0 _ _ _ hh,cell_of_row _ _ 1 _ _ _ hh,cell_of_row _ _ 2 _ _ _ hh,cell_of_row _ _ 3 _ _ _ hh,cell_of_row _ _ 4 _ _ _ hh,cell_of_row _ _ 5 _ _ _ hh⟩,?_,hB4.trans (ht.below hB4.size fun q hq e=>by omega),by omega,by omega⟩;exact⟨⟨(World.cell?_of_block e1).trans h54.1.1,(World.cell?_of_block e1).trans h54.1.2⟩,by rw[World.frozen?,e1];exact h54.2.1,by rw[World.frozen?,e1];exact h54.2.2⟩
 have HBN:=Hd (fun k=>bst_in hs0 hs1 ht0 ht1 k);have HB1:Hid (bstE s t d 1=if d-(s+2*t)<0 then(d-(s+2*t),(0,1))else(0,(0,0))):=rfl;have HB2:Hid (bstE s t d 2=if d-(2*s+t)<(bstE s t d 1).1 then(d-(2*s+t),(1,0))else bstE s t d 1):=rfl;have HB3:Hid (bstE s t d 3=if 3*d-(2*s+t)-(s+2*t)<(bstE s t d 2).1 then(3*d-(2*s+t)-(s+2*t),(1,1))else bstE s t d 2):=rfl;have HA4:Hid (Two2 w4 g (.int .i64 (bstE s t d 0).2.1) (.int .i64 (bstE s t d 0).2.2)):=hA4;clear hL hA4 h54 hB4 hs4 hl H5 HA HB
 go_loopw [12,59] (fun b i wr=>∃k:Nat,k<=3/\i=.int .i64 k/\b=.int .i64 (bstE s t d k).1/\Hid (Two2 wr g (.int .i64 (bstE s t d k).2.1) (.int .i64 (bstE s t d k).2.2)/\Turn (fun q=>q=g) w4 wr)) (fun _ i _=>3-(intOf i).toNat)
 case atStart=>exact⟨0,by omega,rfl,rfl,HA4.out,Turn.refl _ _⟩
 case round=>
  obtain⟨k,hk,rfl,rfl,HI⟩:=hrel;have hbn:=HBN.out k;obtain⟨⟨⟨g0,g1⟩,gf0,gf1⟩,hturn⟩:=HI.out;obtain⟨⟨l0,l1,l2,l3,l4,l5⟩,⟨⟨r0,r1⟩,rf0,rf1⟩,hbw,hgs,hls⟩:=HK.out _ hturn;have HT:=Hd hturn;have HW:=Hd hbw;clear hturn hbw;rcases(show k=0∨k=1∨k=2∨k=3 by omega)with rfl|rfl|rfl|rfl
  ·have HN:Hid (bstE s t d 1=if d-(s+2*t)<(bstE s t d 0).1 then(d-(s+2*t),(0,1))else bstE s t d 0):=by
    show _=_;rw[HB1.out];rfl
   have hall:Below wr.heap.size wr (wr.alloc (.cells #[.int .i64 0,.int .i64 1] 37)):=br.alloc lr _;have HG2:=Hd (HI.out.1.later hgs hall);have HT2:Hid (Turn (fun q=>q=g) w4 (wr.alloc (.cells #[.int .i64 0,.int .i64 1] 37))):=HT.out.trans (Turn.of_below hall) fun _ _ h=>h
   have hp:=HI.out.1.put (.int .i64 0) (.int .i64 1);have hpa:Below ((wr.setCell ⟨g,0,none⟩ (.int .i64 0)).setCell ⟨g,1,none⟩ (.int .i64 1)).heap.size ((wr.setCell ⟨g,0,none⟩ (.int .i64 0)).setCell ⟨g,1,none⟩ (.int .i64 1)) (((wr.setCell ⟨g,0,none⟩ (.int .i64 0)).setCell ⟨g,1,none⟩ (.int .i64 1)).alloc (.cells #[.int .i64 0,.int .i64 1] 37)):=br.alloc lr _;have HP:Hid (Two2 (((wr.setCell ⟨g,0,none⟩ (.int .i64 0)).setCell ⟨g,1,none⟩ (.int .i64 1)).alloc (.cells #[.int .i64 0,.int .i64 1] 37)).drew g (.int .i64 0) (.int .i64 1)/\Turn (fun q=>q=g) w4 (((wr.setCell ⟨g,0,none⟩ (.int .i64 0)).setCell ⟨g,1,none⟩ (.int .i64 1)).alloc (.cells #[.int .i64 0,.int .i64 1] 37)).drew):=⟨hp.1.later (Nat.lt_of_lt_of_le hgs hp.2.2.2.2.1) hpa.drew,((HT.out.trans hp.2 fun _ _ h=>h).trans (Turn.of_below hpa) fun _ _ h=>h).drew⟩;clear hp hpa;have hgs2:g<wr.heap.size+1:=by omega
   obtain⟨⟨G0,G1⟩,G2,G3⟩:=HG2.out;clear hall;by_cases hlt:d-(s+2*t)<(bstE s t d 0).1
   ·have HB:Hid (bstE s t d 1=(d-(s+2*t),(0,1))):=by show _=_;rw[HN.out,if_pos hlt]
    clear HN HB1 HB2 HB3;generalize(bstE s t d 0)=p at *;obtain⟨p1,p2,p3⟩:=p;simp only at *;go_wp2
    go_region
    all_goals
     go_wp2
     go_roundw
     case rel=>exact⟨1,by omega,by go_num,by rw[HB.out],by rw[HB.out];exact HP.out.1,HP.out.2⟩
     case measure=>simp[intOf]
   ·have HB:Hid (bstE s t d 1=bstE s t d 0):=by show _=_;rw[HN.out,if_neg hlt]
    have hle:(bstE s t d 0).1<=d-(s+2*t):=by omega
    have q2:decide (d-(s+2*t)<(bstE s t d 0).1)=false:=by simp;omega
    clear HN HB1 HB2 HB3 hlt hle;generalize(bstE s t d 0)=p at *;obtain⟨p1,p2,p3⟩:=p;simp only at *;go_wp2
    go_roundw
    case rel=>exact⟨1,by omega,by go_num,by rw[HB.out],by rw[HB.out];exact HG2.out,HT2.out⟩
    case measure=>simp[intOf]
  ·have HN:Hid (bstE s t d 2=if d-(2*s+t)<(bstE s t d 1).1 then(d-(2*s+t),(1,0))else bstE s t d 1):=by
    show _=_;exact HB2.out
   have hall:Below wr.heap.size wr (wr.alloc (.cells #[.int .i64 1,.int .i64 0] 37)):=br.alloc lr _;have HG2:=Hd (HI.out.1.later hgs hall);have HT2:Hid (Turn (fun q=>q=g) w4 (wr.alloc (.cells #[.int .i64 1,.int .i64 0] 37))):=HT.out.trans (Turn.of_below hall) fun _ _ h=>h
   have hp:=HI.out.1.put (.int .i64 1) (.int .i64 0);have hpa:Below ((wr.setCell ⟨g,0,none⟩ (.int .i64 1)).setCell ⟨g,1,none⟩ (.int .i64 0)).heap.size ((wr.setCell ⟨g,0,none⟩ (.int .i64 1)).setCell ⟨g,1,none⟩ (.int .i64 0)) (((wr.setCell ⟨g,0,none⟩ (.int .i64 1)).setCell ⟨g,1,none⟩ (.int .i64 0)).alloc (.cells #[.int .i64 1,.int .i64 0] 37)):=br.alloc lr _;have HP:Hid (Two2 (((wr.setCell ⟨g,0,none⟩ (.int .i64 1)).setCell ⟨g,1,none⟩ (.int .i64 0)).alloc (.cells #[.int .i64 1,.int .i64 0] 37)).drew g (.int .i64 1) (.int .i64 0)/\Turn (fun q=>q=g) w4 (((wr.setCell ⟨g,0,none⟩ (.int .i64 1)).setCell ⟨g,1,none⟩ (.int .i64 0)).alloc (.cells #[.int .i64 1,.int .i64 0] 37)).drew):=⟨hp.1.later (Nat.lt_of_lt_of_le hgs hp.2.2.2.2.1) hpa.drew,((HT.out.trans hp.2 fun _ _ h=>h).trans (Turn.of_below hpa) fun _ _ h=>h).drew⟩;clear hp hpa;have hgs2:g<wr.heap.size+1:=by omega
   obtain⟨⟨G0,G1⟩,G2,G3⟩:=HG2.out;clear hall;by_cases hlt:d-(2*s+t)<(bstE s t d 1).1
   ·have HB:Hid (bstE s t d 2=(d-(2*s+t),(1,0))):=by show _=_;rw[HN.out,if_pos hlt]
    clear HN HB1 HB2 HB3;generalize(bstE s t d 1)=p at *;obtain⟨p1,p2,p3⟩:=p;simp only at *;go_wp2
    go_region
    all_goals
     go_wp2
     go_roundw
     case rel=>exact⟨2,by omega,by go_num,by rw[HB.out],by rw[HB.out];exact HP.out.1,HP.out.2⟩
     case measure=>simp[intOf]
   ·have HB:Hid (bstE s t d 2=bstE s t d 1):=by show _=_;rw[HN.out,if_neg hlt]
    have hle:(bstE s t d 1).1<=d-(2*s+t):=by omega
    have q2:decide (d-(2*s+t)<(bstE s t d 1).1)=false:=by simp;omega
    clear HN HB1 HB2 HB3 hlt hle;generalize(bstE s t d 1)=p at *;obtain⟨p1,p2,p3⟩:=p;simp only at *;go_wp2
    go_roundw
    case rel=>exact⟨2,by omega,by go_num,by rw[HB.out],by rw[HB.out];exact HG2.out,HT2.out⟩
    case measure=>simp[intOf]
  ·have HN:Hid (bstE s t d 3=if d*3-(2*s+t)-(s+2*t)<(bstE s t d 2).1 then(d*3-(2*s+t)-(s+2*t),(1,1))else bstE s t d 2):=by
    show _=_;rw[HB3.out,Int.mul_comm 3 d]
   have hall:Below wr.heap.size wr (wr.alloc (.cells #[.int .i64 1,.int .i64 1] 37)):=br.alloc lr _;have HG2:=Hd (HI.out.1.later hgs hall);have HT2:Hid (Turn (fun q=>q=g) w4 (wr.alloc (.cells #[.int .i64 1,.int .i64 1] 37))):=HT.out.trans (Turn.of_below hall) fun _ _ h=>h
   have hp:=HI.out.1.put (.int .i64 1) (.int .i64 1);have hpa:Below ((wr.setCell ⟨g,0,none⟩ (.int .i64 1)).setCell ⟨g,1,none⟩ (.int .i64 1)).heap.size ((wr.setCell ⟨g,0,none⟩ (.int .i64 1)).setCell ⟨g,1,none⟩ (.int .i64 1)) (((wr.setCell ⟨g,0,none⟩ (.int .i64 1)).setCell ⟨g,1,none⟩ (.int .i64 1)).alloc (.cells #[.int .i64 1,.int .i64 1] 37)):=br.alloc lr _;have HP:Hid (Two2 (((wr.setCell ⟨g,0,none⟩ (.int .i64 1)).setCell ⟨g,1,none⟩ (.int .i64 1)).alloc (.cells #[.int .i64 1,.int .i64 1] 37)).drew g (.int .i64 1) (.int .i64 1)/\Turn (fun q=>q=g) w4 (((wr.setCell ⟨g,0,none⟩ (.int .i64 1)).setCell ⟨g,1,none⟩ (.int .i64 1)).alloc (.cells #[.int .i64 1,.int .i64 1] 37)).drew):=⟨hp.1.later (Nat.lt_of_lt_of_le hgs hp.2.2.2.2.1) hpa.drew,((HT.out.trans hp.2 fun _ _ h=>h).trans (Turn.of_below hpa) fun _ _ h=>h).drew⟩;clear hp hpa;have hgs2:g<wr.heap.size+1:=by omega
   obtain⟨⟨G0,G1⟩,G2,G3⟩:=HG2.out;clear hall;by_cases hlt:d*3-(2*s+t)-(s+2*t)<(bstE s t d 2).1
   ·have HB:Hid (bstE s t d 3=(d*3-(2*s+t)-(s+2*t),(1,1))):=by show _=_;rw[HN.out,if_pos hlt]
    clear HN HB1 HB2 HB3;generalize(bstE s t d 2)=p at *;obtain⟨p1,p2,p3⟩:=p;simp only at *;go_wp2
    go_region
    all_goals
     go_wp2
     go_roundw
     case rel=>exact⟨3,by omega,by go_num,by rw[HB.out],by rw[HB.out];exact HP.out.1,HP.out.2⟩
     case measure=>simp[intOf]
   ·have HB:Hid (bstE s t d 3=bstE s t d 2):=by show _=_;rw[HN.out,if_neg hlt]
    have hle:(bstE s t d 2).1<=d*3-(2*s+t)-(s+2*t):=by omega
    have q2:decide (d*3-(2*s+t)-(s+2*t)<(bstE s t d 2).1)=false:=by simp;omega
    clear HN HB1 HB2 HB3 hlt hle;generalize(bstE s t d 2)=p at *;obtain⟨p1,p2,p3⟩:=p;simp only at *;go_wp2
    go_roundw
    case rel=>exact⟨3,by omega,by go_num,by rw[HB.out],by rw[HB.out];exact HG2.out,HT2.out⟩
    case measure=>simp[intOf]
  ·have hb2:=hbn
   have HZ:Hid (z=(qa+(bstE s t d 3).2.1,qb+(bstE s t d 3).2.2)):=HR.out;generalize bstE s t d 3=p at *;obtain⟨p1,p2,p3⟩:=p;simp only at *;go_wp2;exact bodyPost_ret (v:=.tuple #[.agg #[.int .i64 (qa+p2),.int .i64 (qb+p3)],.bool true]) (by simp[results,Tryz.results145,go_sem, *]) rfl ⟨by rw[HZ.out],(HW.out.setCell (p:=⟨w.heap.size+1,0,none⟩) (by simp) _).setCell (p:=⟨w.heap.size+1,1,none⟩) (by simp) _⟩
theorem mul_e(y z:E2)(hy:Sm 1152921504606846976 y)(hz:Sm 1152921504606846976 z)(h:Sm 4611686018427387904 (mulE y z))(w:World):
  Calls Tryz.prog 71 #[vE y,vE z] w fun e w'=>e=.returned (.tuple #[vE (mulE y z),.bool true])/\Below w.heap.size w w':=by
 obtain⟨a,b⟩:=y;obtain⟨c,d⟩:=z;exact mul_in a b c d ⟨hy.1,hy.2.1⟩ ⟨hy.2.2.1,hy.2.2.2⟩ ⟨hz.1,hz.2.1⟩ ⟨hz.2.2.1,hz.2.2.2⟩ ⟨h.1,h.2.1⟩ ⟨h.2.2.1,h.2.2.2⟩ w
theorem Two.alloc{w:World}{b:Nat}{u v:Value}(h:Two w b u v)(hb:b<w.heap.size)(o:Obj):Two (w.alloc o) b u v:=h.later hb (br.alloc lr o)
theorem Two2.alloc{w:World}{b:Nat}{u v:Value}(h:Two2 w b u v)(hb:b<w.heap.size)(o:Obj):Two2 (w.alloc o) b u v:=h.later hb (br.alloc lr o)
theorem Two2.turn{S:Nat->Prop}{w w':World}{b:Nat}{u v:Value}(h:Two2 w b u v)(ht:Turn S w w')(hb:b<w.heap.size)(hs:¬S b):Two2 w' b u v:=by
 have e:w'.heap[b]? =w.heap[b]? :=ht.2.2.2.2 b hb hs;exact⟨⟨(World.cell?_of_block e).trans h.1.1,(World.cell?_of_block e).trans h.1.2⟩,by rw[World.frozen?,e];exact h.2.1,by rw[World.frozen?,e];exact h.2.2⟩
theorem Two.turn{S:Nat->Prop}{w w':World}{b:Nat}{u v:Value}(h:Two w b u v)(ht:Turn S w w')(hb:b<w.heap.size)(hs:¬S b):Two w' b u v:=by
 have e:w'.heap[b]? =w.heap[b]? :=ht.2.2.2.2 b hb hs;exact⟨(World.cell?_of_block e).trans h.1,(World.cell?_of_block e).trans h.2⟩
theorem left_of(z:E2):subE z (mulE (upE z) (2,1))=leftE (digE z):=by
 have h:=down_up z;unfold downE addE at h;unfold subE;generalize mulE (upE z) (2,1)=m at *;generalize leftE (digE z)=l at *;rw[<- h];ext <;> simp only <;> omega
theorem left_sm(d:Nat):Sm 1 (leftE d):=by
 match d with
 |0=>unfold Sm;decide
 |k+1=>
  show Sm 1 (unitE k);unfold unitE
  split <;> (unfold Sm;decide)
theorem up_sm{h:Int}(hh:2<=h){z:E2}(hz:Sm h z):Sm h (upE z):=by
 have h1:=left_sm (digE z);unfold upE;generalize leftE (digE z)=l at *;unfold Sm at *;simp only;omega
theorem split_in(z:E2)(hz:Sm 1099511627776 z)(w:World):
  Calls Tryz.prog 148 #[vE z] w fun e w'=>e=.returned (.tuple #[vE (upE z),vE (leftE (digE z))])/\Below w.heap.size w w':=by
 have hup:=up_sm (by omega) hz;have C:=Hd (conj_in (2,1) (by unfold Sm;simp));have M1:=Hd (mul_e z (3,-1) (by unfold Sm at *;omega) (by unfold Sm;simp) (by unfold Sm mulE at *;simp only;omega));have R1:=Hd (round_in (mulE z (3,-1)) 7 (by omega) (by omega) (by unfold Sm mulE at *;simp only;omega));rw[round_up]at R1;have M2:=Hd (mul_e (upE z) (2,1) (by unfold Sm at *;omega) (by unfold Sm;simp) (by unfold Sm mulE at *;simp only;omega));have S1:=Hd (sub_in z (mulE (upE z) (2,1)) (by unfold Sm at *;omega) (by unfold Sm mulE at *;simp only;omega));rw[left_of]at S1;clear hup hz;obtain⟨a,b⟩:=z;simp only[vE]at *;generalize upE (a,b)=p at *;generalize mulE (a,b) (3,-1)=q at *;generalize mulE p (2,1)=m at *;generalize leftE (digE (a,b))=l at *;obtain⟨p1,p2⟩:=p;obtain⟨q1,q2⟩:=q;obtain⟨m1,m2⟩:=m;obtain⟨l1,l2⟩:=l;simp only at*
 go_enter Tryz.func148,Tryz.ntmps148
 go_wp2_with fail
 refine(C.out _).mono ?_;rintro e w1 ⟨rfl,hb1⟩;have hz1:=hb1.size;simp at hz1;have z0:Two w1 w.heap.size (.int .i64 a) (.int .i64 b):=(Two.of_row (t:=37) (f:=_) (by rw[Below.heap_alloc _ _ _ (by simp;omega),Below.heap_alloc _ _ _ (by simp)];exact heap_new _ _ _ rfl)).later (by simp;omega) hb1;have u0:Two2 w1 (w.heap.size+1) (.int .i64 0) (.int .i64 0):=(Two2.of_row (t:=37) (by rw[Below.heap_alloc _ _ _ (by simp)];exact heap_new _ _ _ (by simp))).later (by simp) hb1;have v0:Two2 w1 (w.heap.size+2) (.int .i64 0) (.int .i64 0):=(Two2.of_row (t:=37) (heap_new _ _ _ (by simp))).later (by simp) hb1;have hB1:Below w.heap.size w w1:=((br.alloc lr _).alloc (by simp) _).alloc (by simp;omega) _ |>.trans (hb1.mono (by simp;omega))
 have z1:=z0.alloc (by omega) (.cells #[.int .i64 3,.int .i64 (-1)] 37);have u1:=u0.alloc (by omega) (.cells #[.int .i64 3,.int .i64 (-1)] 37);have v1:=v0.alloc (by omega) (.cells #[.int .i64 3,.int .i64 (-1)] 37);have hB2:=hB1.alloc (by omega) (.cells #[.int .i64 3,.int .i64 (-1)] 37);have hz2:=World.size_alloc w1 (.cells #[.int .i64 3,.int .i64 (-1)] 37);have U1:=Hd u1;have V1:=Hd v1;have Z1:=Hd z1;have B2:=Hd hB2;obtain⟨k0,k1⟩:=z1;clear u0 v0 z0 hb1 hB1 u1 v1 hB2
 go_wp2_with fail
 refine(M1.out _).mono ?_;rintro e w2 ⟨rfl,hb2⟩;have hz3:=hb2.size;have U2:=Hd (U1.out.later (by omega) hb2);have V2:=Hd (V1.out.later (by omega) hb2);have Z2:=Hd (Z1.out.later (by omega) hb2);have B3:=Hd (B2.out.trans (hb2.mono (by omega)));have B4:=Hd (B3.out.alloc (by omega) (.cells #[.int .i64 q1,.int .i64 q2] 37));have U3:=Hd (U2.out.alloc (by omega) (.cells #[.int .i64 q1,.int .i64 q2] 37));have V3:=Hd (V2.out.alloc (by omega) (.cells #[.int .i64 q1,.int .i64 q2] 37));have Z3:=Hd (Z2.out.alloc (by omega) (.cells #[.int .i64 q1,.int .i64 q2] 37));have hz4:=World.size_alloc w2 (.cells #[.int .i64 q1,.int .i64 q2] 37);clear U1 V1 Z1 B2 U2 V2 Z2 B3 hb2 k0 k1
 go_wp2_with fail
 refine(R1.out _).mono ?_;rintro e w3 ⟨rfl,hb3⟩;have hz5:=hb3.size;have U4:=Hd (U3.out.later (by omega) hb3);have V4:=Hd (V3.out.later (by omega) hb3);have Z4:=Hd (Z3.out.later (by omega) hb3);have B5:=Hd (B4.out.trans (hb3.mono (by omega)));have P:=Hd (U4.out.put (.int .i64 p1) (.int .i64 p2));have V5:=Hd (V4.out.turn P.out.2 (by omega) (by omega));have Z5:=Hd (Z4.out.turn P.out.2 (by omega) (by omega));have B6:Hid (Below w.heap.size w ((w3.setCell ⟨w.heap.size+1,0,none⟩ (.int .i64 p1)).setCell ⟨w.heap.size+1,1,none⟩ (.int .i64 p2))):=B5.out.trans (P.out.2.below (by omega) fun k hk e=>by omega);obtain⟨⟨k0,k1⟩,k2,k3⟩:=U4.out;have hz6:=P.out.2.2.2.2.1;clear U3 V3 Z3 B4 hb3 V4 Z4 B5 U4
 go_upto_region 4 with(fail)
 generalize(w3.setCell ⟨w.heap.size+1,0,none⟩ (.int .i64 p1)).setCell ⟨w.heap.size+1,1,none⟩ (.int .i64 p2)=w4 at *;obtain⟨⟨i0,i1⟩,i2,i3⟩:=P.out.1;have U5:=Hd P.out.1;clear P k0 k1 k2 k3
 go_wp2_with fail
 refine(M2.out _).mono ?_;rintro e w5 ⟨rfl,hb5⟩;have hz7:=hb5.size;have U6:=Hd ((U5.out.later (by omega) hb5).alloc (by omega) (.cells #[.int .i64 m1,.int .i64 m2] 37));have V6:=Hd ((V5.out.later (by omega) hb5).alloc (by omega) (.cells #[.int .i64 m1,.int .i64 m2] 37));have Z6:=Hd ((Z5.out.later (by omega) hb5).alloc (by omega) (.cells #[.int .i64 m1,.int .i64 m2] 37));have B7:=Hd ((B6.out.trans (hb5.mono (by omega))).alloc (by omega) (.cells #[.int .i64 m1,.int .i64 m2] 37));have hz8:=World.size_alloc w5 (.cells #[.int .i64 m1,.int .i64 m2] 37);obtain⟨j0,j1⟩:=Z6.out;clear U5 V5 Z5 B6 hb5 i0 i1 i2 i3
 go_wp2_with fail
 refine(S1.out _).mono ?_;rintro e w6 ⟨rfl,hb6⟩;have hz9:=hb6.size;have U7:=Hd (U6.out.later (by omega) hb6);have V7:=Hd (V6.out.later (by omega) hb6);have B8:=Hd (B7.out.trans (hb6.mono (by omega)));have Q:=Hd (V7.out.put (.int .i64 l1) (.int .i64 l2));have U8:=Hd (U7.out.turn Q.out.2 (by omega) (by omega));have B9:Hid (Below w.heap.size w ((w6.setCell ⟨w.heap.size+2,0,none⟩ (.int .i64 l1)).setCell ⟨w.heap.size+2,1,none⟩ (.int .i64 l2))):=B8.out.trans (Q.out.2.below (by omega) fun k hk e=>by omega);obtain⟨⟨n0,n1⟩,n2,n3⟩:=V7.out;have hz10:=Q.out.2.2.2.2.1;clear U6 V6 Z6 B7 hb6 j0 j1 U7 V7 B8
 go_upto_region 6 with(fail)
 generalize(w6.setCell ⟨w.heap.size+1+1,0,none⟩ (.int .i64 l1)).setCell ⟨w.heap.size+1+1,1,none⟩ (.int .i64 l2)=w7 at *;obtain⟨⟨o0,o1⟩,o2,o3⟩:=U8.out;obtain⟨⟨y0,y1⟩,y2,y3⟩:Two2 w7 (w.heap.size+1+1) (.int .i64 l1) (.int .i64 l2):=Q.out.1;have ho:w.heap.size+1<w7.heap.size:=by omega
 have hy:w.heap.size+1+1<w7.heap.size:=by omega
 clear n0 n1 n2 n3 Q U8
 go_region
 go_wp2;exact bodyPost_ret (v:=.tuple #[.agg #[.int .i64 p1,.int .i64 p2],.agg #[.int .i64 l1,.int .i64 l2]]) (by simp[results,Tryz.results148,go_sem, *]) rfl ⟨rfl,((((B9.out.setCell (p:=⟨w.heap.size+1,0,none⟩) (by simp) _).setCell (p:=⟨w.heap.size+1,1,none⟩) (by simp) _).setCell (p:=⟨w.heap.size+1+1,0,none⟩) (by simp;omega) _).setCell (p:=⟨w.heap.size+1+1,1,none⟩) (by simp;omega) _).drew⟩
theorem unit_left{k d:Nat}(hk:k<6)(hd:d<7):(((unitE k).1==(leftE d).1)&&((unitE k).2==(leftE d).2))=decide (d=k+1):=by
 rcases(show k=0∨k=1∨k=2∨k=3∨k=4∨k=5 by omega)with rfl|rfl|rfl|rfl|rfl|rfl <;> rcases(show d=0∨d=1∨d=2∨d=3∨d=4∨d=5∨d=6 by omega)with rfl|rfl|rfl|rfl|rfl|rfl|rfl <;> decide
theorem digit_in(d:Nat)(hd:d<7)(w:World):
  Calls Tryz.prog 149 #[vE (leftE d)] w fun e w'=>e=.returned (.int .i64 d)/\Below w.heap.size w w':=by
 have HU:=Hd (fun k (hk:k<6)=>unit_left hk hd);generalize leftE d=l at *;obtain⟨l1,l2⟩:=l;simp only[vE]at*
 go_enter Tryz.func149,Tryz.ntmps149
 have z0:Hid (Two (w.alloc (.cells #[.int .i64 l1,.int .i64 l2] 37)) w.heap.size (.int .i64 l1) (.int .i64 l2)):=Two.of_row (t:=37) (f:=_) (heap_new _ _ _ rfl);have hB:Hid (Below w.heap.size w (w.alloc (.cells #[.int .i64 l1,.int .i64 l2] 37))):=br.alloc lr _;have hz:=World.size_alloc w (.cells #[.int .i64 l1,.int .i64 l2] 37)
 go_upto_region 1 with(fail)
 generalize w.alloc (.cells #[.int .i64 l1,.int .i64 l2] 37)=w1 at *;go_wp2
 go_loopw [4] (fun i wr=>∃k:Nat,k<=6/\i=.int .i64 k/\(d=0∨k<d)/\Below w1.heap.size w1 wr) (fun i _=>6-(intOf i).toNat)
 case atStart=>exact⟨0,by omega,rfl,by omega,br⟩
 case round=>
  obtain⟨k,hk,rfl,hd0,hbw⟩:=hrel;have hsz:=hbw.size;by_cases hk6:k<6
  ·have U:=Hd (unit_in k hk6)
   have HQ:=Hd (HU.out k hk6);have HZ:Hid (∀ wx,Below wr.heap.size wr wx->Two wx w.heap.size (.int .i64 l1) (.int .i64 l2)):=fun wx hx=>z0.out.later (by omega) (hbw.trans (hx.mono hsz))
   have HB:=Hd hbw;simp only[vE]at U;generalize unitE k=u at *;obtain⟨u1,u2⟩:=u;simp only at U HQ;obtain⟨b,hb⟩:∃b,decide (d=k+1)=b:=⟨_,rfl⟩;rw[hb]at HQ;have HD:Hid (decide (d=k+1)=b):=hb;have HK:Hid (d=0∨k<d):=hd0;have q6:decide ((k:Int)<6)=true:=by simp;omega
   clear hb hbw hd0
   go_upto_region 4 with(fail)
   refine wp_region_inw ([.inl (.int .i64 (k:Int)),.inl (.agg #[.int .i64 u1,.int .i64 u2]),.inl (.agg #[.int .i64 l1,.int .i64 l2]),.inl (.bool b)]:List Want) [] (by kernel_rfl) (by kernel_rfl) (by kernel_rfl) ?_;refine inw_cons (fun wx hg hd=>?_) (fun v0=>?_)
   ·have hx:=hxo wr hg
    clear hd hg;go_wp2;exact⟨_,rfl,br,rfl⟩
   (try simp only[pq])
   refine inw_cons (fun wx hg hd=>?_) (fun v1=>?_)
   ·have hx:=hxo wr hg
    (try(have ee:v0=(.int .i64 (k:Int):Value):=hd 0 (by simp) (by decide);subst ee))
    clear hd hg
    go_wp2_with fail
    refine(U.out _).mono ?_;rintro e w' ⟨rfl,hb⟩;go_wp2;exact⟨_,rfl,hb,rfl⟩
   (try simp only[pq])
   refine inw_cons (fun wx hg hd=>?_) (fun v2=>?_)
   ·have hx:=hxo wr hg
    clear hd hg;obtain⟨k1,k2⟩:=HZ.out _ hx;go_wp2;exact⟨_,rfl,br,rfl⟩
   (try simp only[pq])
   refine inw_cons (fun wx hg hd=>?_) (fun v3=>?_)
   ·have hx:=hxo wr hg
    (try(have ee:v1=(.agg #[.int .i64 u1,.int .i64 u2]:Value):=hd 1 (by simp) (by decide);subst ee))
    (try(have ee:v2=(.agg #[.int .i64 l1,.int .i64 l2]:Value):=hd 2 (by simp) (by decide);subst ee))
    clear hd hg;go_wp2
    all_goals(refine⟨_,rfl,br,?_⟩)
    all_goals(show Value.bool _=Value.bool b)
    all_goals(rw[<- HQ.out])
    all_goals(simp[*])
   (try simp only[pq])
   refine inw_done (fun wx hg hd=>?_);have hx:=hxo wr hg
   (have ee:v0=(.int .i64 (k:Int):Value):=hd 0 (by simp) (by kernel_rfl);subst ee)
   (have ee:v1=(.agg #[.int .i64 u1,.int .i64 u2]:Value):=hd 1 (by simp) (by kernel_rfl);subst ee)
   (have ee:v2=(.agg #[.int .i64 l1,.int .i64 l2]:Value):=hd 2 (by simp) (by kernel_rfl);subst ee)
   (have ee:v3=(.bool b:Value):=hd 3 (by simp) (by kernel_rfl);subst ee)
   clear hd hg
   (try go_simp)
   have HX:Hid (Below w1.heap.size w1 wx):=HB.out.trans (hx.mono HB.out.size);have HF:Hid (Below w.heap.size w wx):=hB.out.trans (HX.out.mono hB.out.size);cases b
   ·have hne:d≠k+1:=by simpa using HD.out
    go_wp2
    go_roundw
    case rel=>exact⟨k+1,by omega,by go_num,by have:=HK.out;omega,HX.out⟩
    case measure=>simp[intOf];omega
   ·have hne:d=k+1:=by simpa using HD.out
    have HV:Hid ((d:Int)=(k:Int)+1):=by show _=_;omega
    clear hne HK HD;go_wp2;go_ret;exact⟨by rw[HV.out];rfl,HF.out⟩
  ·have h0:d=0:=by omega
   obtain rfl:k=6:=by omega
   subst h0;have HF:Hid (Below w.heap.size w wr):=hB.out.trans (hbw.mono hB.out.size);clear hbw hk6;go_wp2;go_ret;exact⟨rfl,HF.out⟩
end
end Go.Proofs.YtpkoapmpknbgoaaGreat
