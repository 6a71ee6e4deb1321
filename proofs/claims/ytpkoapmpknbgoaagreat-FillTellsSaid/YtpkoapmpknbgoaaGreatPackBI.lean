/- Joined: LexA, RtA, FlD, DfB, PoA, PoB, PoC, PoD, PoE: contracts and plain laws, each with its own heading below. -/
import Derived.Test.YtpkoapmpknbgoaaGreatPackBH
import Derived.Test.YtpkoapmpknbgoaaGreatPackBC
import Derived.Maps.AppendAt
import Derived.Test.YtpkoapmpknbgoaaGreatPackBG
import Derived.Test.YtpkoapmpknbgoaaGreatProg
set_option maxRecDepth 100000
set_option maxHeartbeats 16000000
namespace Go.Proofs.YtpkoapmpknbgoaaGreat
section
open Go Go.RowKit
section
variable {P : Program} {ops : Array Oper}
inductive Want3 where
 |val (u:Value)
 |prop (p:SP)
 |of (i:Nat) (p:SP)
def Want3.fixed:Want3->Bool
 | .val _=>true
 |_=>false
def want3At(L:List Want3)(j:Nat):Want3:=L.getD j (.val undef)
def Want3.holdsAt(j:Nat):Want3->Value->(Nat->Value)->World->Prop
 | .val u,v,_,_=>v=u
 | .prop p,v,_,w=>p.1 v w
 | .of i p,_,V,w=>i<j->p.1 (V i) w
def dep3(L:List Want3)(j i:Nat):Bool:=match want3At L j with
 | .of q _=>decide (q<j)&&(q==i)
 |_=>false
theorem dep3_lt{L:List Want3}{j i:Nat}(h:dep3 L j i=true):i<j:=by
 unfold dep3 at h
 split at h
 ·rw[Bool.and_eq_true,decide_eq_true_eq,beq_iff_eq]at h;omega
 ·cases h
def dep3B(ops:Array Oper)(L:List Want3):Bool:=(List.range ops.size).all fun j=>(List.range ops.size).all fun i=> !dep3 L j i||((waits ops.toList []).getD j 0).testBit i
theorem stepV_mono{o:Oper}{S S':Value->World->Prop}{a:Act}{w:World}(hs:∀v w',S v w'->S' v w')(h:stepV P ops o S a w):stepV P ops o S' a w:=by
 unfold stepV at*
 split at h
 ·rename_i hw
  rw[if_pos hw];exact Oper.wp_mono (fun a' w' hh=>by obtain⟨v,e,hv⟩:=hh;exact⟨v,e,hs v w' hv⟩) h
 ·rename_i hw
  rw[if_neg hw];obtain⟨v,e,hv⟩:=h;exact⟨v,e,hs v w hv⟩
def invList3(P:Program)(ops:Array Oper)(G:World->World->Prop)(T:Nat->World->World->Prop)(alive:Nat->Bool)(w0:World)(R:Nat->(Nat->Value)->World->Prop)(K:Act->World->Prop):List Oper->List Value->Act->Prop
 |[],vs,a=>∀w,G w0 w->(∀ j,j<vs.length->alive j=true->R j (fun q=>vs.getD q undef) w)->K a w
 |o::r,vs,a=>(∀ w,G w0 w->(∀ j,j<vs.length->uses o j=true->R j (fun q=>vs.getD q undef) w)->wpList P ops (Leaves a o.dst fun v w'=>T vs.length w w'/\R vs.length (fun q=>(vs++[v]).getD q undef) w') [o] a w)/\
  ∀v,invList3 P ops G T alive w0 R K r (vs++[v]) (a.put o.dst v)
theorem inv3_at{G:World->World->Prop}{T:Nat->World->World->Prop}{alive:Nat->Bool}{w0:World}{R:Nat->(Nat->Value)->World->Prop}{K:Act->World->Prop}{dep:Nat->Nat->Bool}(hlt:∀j i,dep j i=true->i<j)(hdep:∀j V V' w,(∀ i,(i=j∨dep j i=true)->V i=V' i)->R j V w->R j V' w)(V:Nat->Value):∀(r:List Oper) (m:Nat) (a:Act),invList3 P ops G T alive w0 R K r ((List.range m).map V) a->
  (∀ k o,r[k]? =some o->∀w,G w0 w->(∀ j,j<m+k->uses o j=true->R j V w)->
   stepV P ops o (fun v w'=>T (m+k) w w'/\R (m+k) (fun q=>if q=m+k then v else V q) w') (fillD (fun j=>decide (j<m+k)) V r m a) w)/\
  (∀ w,G w0 w->(∀ j,j<m+r.length->alive j=true->R j V w)->K (fillD (fun _=>true) V r m a) w)
 |[],m,a,h=>⟨fun k o hk=>by simp at hk,fun w hg hr=>h w hg fun j hj hl=>by
   have hj':j<m:=by simpa using hj
   refine hdep j V _ w (fun i hi=>?_) (hr j (by simpa using hj') hl);have hi':i<m:=by rcases hi with rfl|hi;exact hj';have:=hlt j i hi;omega
   exact(range_get V hi').symm⟩
 |o::r,m,a,h=>by
  obtain⟨h1,h2⟩:=h;have h3:=h2 (V m);rw[range_snoc]at h3;obtain⟨i1,i2⟩:=inv3_at hlt hdep V r (m+1) _ h3;refine⟨fun k o' hk w hg hr=>?_,fun w hg hr=>?_⟩
  ·cases k with
   |zero=>
    obtain rfl:o=o':=by simpa using hk
    rw[Nat.add_zero]at hr ⊢;rw[fill_none _ _ _ _ _ fun j hj=>by simp;omega];have:=h1 w hg fun j hj hn=>by
     have hj':j<m:=by simpa using hj
     refine hdep j V _ w (fun i hi=>?_) (hr j hj' hn);have hi':i<m:=by rcases hi with rfl|hi;exact hj';have:=hlt j i hi;omega
     exact(range_get V hi').symm
    refine stepV_mono (fun v w' hh=>⟨by simpa using hh.1,?_⟩) (stepV_of_list this);have h5:=hh.2;rw[show ((List.range m).map V).length=m by simp]at h5;refine hdep m _ _ w' (fun i hi=>?_) h5;rcases hi with rfl|hi
    ·simp
    ·have:=hlt m i hi
     rw[if_neg (by omega),List.getD_eq_getElem?_getD,List.getElem?_append_left (by simpa using this)];have:=range_get V this;rw[List.getD_eq_getElem?_getD]at this;exact this
   |succ k=>
    have:=i1 k o' (by simpa using hk) w hg fun j hj hn=>hr j (by omega) hn
    simp only[show m+1+k=m+(k+1)from by omega]at this;have e:fillD (fun j=>decide (j<m+(k+1))) V (o::r) m a=fillD (fun j=>decide (j<m+(k+1))) V r (m+1) (a.put o.dst (V m)):=by
     show fillD _ V r (m+1) _=_;rw[if_pos (by simp)]
    rw[e];exact this
  ·have:=i2 w hg fun j hj hl=>hr j (by simp;omega) hl
   exact this
theorem inv3_any{l:List Oper}{G:World->World->Prop}{T:Nat->World->World->Prop}{w0:World}{R:Nat->(Nat->Value)->World->Prop}{K:Act->World->Prop}{a0:Act}{st bar:Nat->Bool}{dep:Nat->Nat->Bool}(hlt':∀j i,dep j i=true->i<j)(hdep:∀j V V' w,(∀ i,(i=j∨dep j i=true)->V i=V' i)->R j V w->R j V' w)(hdw:∀j i,j<l.length->dep j i=true->((waits l.toArray.toList []).getD j 0).testBit i=true)(hB:invB l.toArray=true)(hK:barB l.toArray st bar=true)
  (Gt:∀w w1 w2,G w w1->G w1 w2->G w w2) (TG:∀i w w',G w0 w->T i w w'->G w w') (mono:∀i j v w w',bar i=false->G w0 w->T i w w'->R j v w->R j v w')
  (monoS:∀j v w w',st j=true->G w0 w->G w w'->R j v w->R j v w')
  (h:invList3 P l.toArray G T (aliveB l.toArray st bar) w0 R K l [] a0):
  ∀(fuel:Nat) (listed:Array Bool) (V:Nat->Value) (w:World),listed.size=l.length->Closed l.toArray listed->G w0 w->
  (∀ j,listed.getD j false=true->(∀ i,bar i=true->listed.getD i false=true->((waits l.toArray.toList []).getD i 0).testBit j=true->st j=true)->R j V w)->
  (rem l.toArray listed).length<=fuel->wpAny P .any l.toArray (Only K) fuel listed (fillD (fun j=>listed.getD j false) V l 0 a0) w:=by
 unfold invB at hB;simp only[Bool.and_eq_true,List.all_eq_true,List.mem_range]at hB;obtain⟨hsel,hB⟩:=hB;have hB':∀i oi,l.toArray[i]? =some oi->_:=fun i oi hi=>by
  have:=hB i (Array.getElem?_eq_some_iff.1 hi).1;simp only[hi,Bool.and_eq_true,List.all_eq_true,List.mem_range]at this;exact this
 have hback:∀i oi,l.toArray[i]? =some oi->∀e∈oi.after,Region.binds .any e=true->e.on<i:=fun i oi hi e he hb=>by
  have:=(hB' i oi hi).1 e (by simpa using he);simpa[hb]using this
 have htr:Truth l.toArray (waits l.toArray.toList []):=waits_truth hback l.toArray.toList [] (fun j=>by simp) (fun i t hi=>by simp at hi);have hlen:(waits l.toArray.toList []).length=l.length:=by rw[waits_length];simp
 have hanc:∀listed:Array Bool,Closed l.toArray listed->∀i t,i<l.length->listed.getD i false=true->((waits l.toArray.toList []).getD i 0).testBit t=true->listed.getD t false=true:=fun listed hcl i t hi hli hb=>by
  have hlt:i<l.toArray.size:=by simpa using hi
  exact htr.listed hcl i _ t (by rw[hlen];exact hi) (Array.getElem?_eq_getElem hlt) (hcl i _ (Array.getElem?_eq_getElem hlt) hli) hb
 unfold barB at hK;simp only[List.all_eq_true,List.mem_range]at hK;have hK1:∀i,i<l.length->bar i=true->∀j,j<l.length->j=i∨((waits l.toArray.toList []).getD i 0).testBit j=true∨((waits l.toArray.toList []).getD j 0).testBit i=true∨st j=true:=fun i hi hb j hj=>by
  have:=hK i (by simpa using hi);rw[hb,Bool.not_true,Bool.false_or,List.all_eq_true]at this;have:=this j (List.mem_range.2 (by simpa using hj));simp only[Bool.and_eq_true,Bool.or_eq_true,beq_iff_eq]at this;rcases this.1 with((h|h)|h)|h
  ·exact .inl h
  ·exact .inr (.inl h)
  ·exact .inr (.inr (.inl h))
  ·exact .inr (.inr (.inr h))
 have hK2:∀i,i<l.length->bar i=true->∀j,j<l.length->((waits l.toArray.toList []).getD i 0).testBit j=true->st j=false->∀k o,l.toArray[k]? =some o->uses o j=true->k=i∨((waits l.toArray.toList []).getD i 0).testBit k=true:=fun i hi hb j hj ht hs k o hk hn=>by
  have:=hK i (by simpa using hi);rw[hb,Bool.not_true,Bool.false_or,List.all_eq_true]at this;have:=this j (List.mem_range.2 (by simpa using hj));simp only[Bool.and_eq_true,Bool.or_eq_true,hs,ht,Bool.not_true,List.all_eq_true]at this;have h3:=this.2;simp at h3;have hkl:k<l.length:=by have:=(Array.getElem?_eq_some_iff.1 hk).1;simpa using this
  have h4:=h3 k hkl;have hk':l[k]? =some o:=by simpa using hk
  simp[hk',hn]at h4;rcases h4 with h|h
  ·exact .inl h
  ·exact .inr h
 have hall:∀listed:Array Bool,listed.size=l.length->Region.ready .any l.toArray listed=[]->∀i,i<l.length->listed.getD i false=true:=fun listed hs hr i hi=>
  rem_nil hback listed (by simpa using hs) hr i (by simpa using hi)
 have hend:∀(listed:Array Bool) (V:Nat->Value) (w:World),(∀ i,i<l.length->listed.getD i false=true)->G w0 w->(∀ j,listed.getD j false=true->(∀ i,bar i=true->listed.getD i false=true->((waits l.toArray.toList []).getD i 0).testBit j=true->st j=true)->R j V w)->
   listed.size=l.length->K (fillD (fun j=>listed.getD j false) V l 0 a0) w:=fun listed V w hd hg hr hsz=>by
  have:=(inv3_at hlt' hdep V l 0 a0 h).2 w hg fun j hj hl=>hr j (hd j (by simpa using hj)) fun i hb hi ht=>by
   unfold aliveB at hl;rw[Bool.or_eq_true]at hl;rcases hl with hl|hl
   ·exact hl
   ·rw[List.all_eq_true]at hl
    have hil:i<l.length:=by
     rcases Nat.lt_or_ge i listed.size with h|h
     ·omega
     ·simp[Nat.not_lt.2 h]at hi
    have:=hl i (List.mem_range.2 (by simpa using hil));rw[hb,ht]at this;simp at this
  rw[fill_congr _ (fun _=>true) V V l 0 a0 fun j _ hj=>⟨hd j (by simpa using hj),fun _=>rfl⟩];exact this
 intro fuel
 induction fuel with
 |zero=>
  intro listed V w hs hcl hg hr hf;have hnil:rem l.toArray listed=[]:=List.eq_nil_of_length_eq_zero (by omega);have hd:∀i,i<l.length->listed.getD i false=true:=fun i hi=>by
   by_cases hd:listed.getD i false=true
   ·exact hd
   ·exfalso
    have:i∈rem l.toArray listed:=mem_rem.2 ⟨by simpa using hi,by
     have:i<listed.size:=by omega
     simp[this]at hd ⊢;exact hd⟩
    rw[hnil]at this;cases this
  refine⟨?_,hend listed V w hd hg hr hs⟩;cases hrd:Region.ready .any l.toArray listed with
  |nil=>rfl
  |cons i q=>
   have hi:i∈Region.ready .any l.toArray listed:=by rw[hrd];simp
   obtain⟨hun,o,ho,_⟩:=mem_ready.1 hi;have:i∈rem l.toArray listed:=mem_rem.2 ⟨(Array.getElem?_eq_some_iff.1 ho).1,hun⟩;rw[hnil]at this;cases this
 |succ fuel ih=>
  intro listed V w hs hcl hg hr hf;refine⟨fun hrd=>hend listed V w (hall listed hs hrd) hg hr hs,fun i hi=>?_⟩;obtain⟨hun,o,ho,hdone⟩:=mem_ready.1 hi;have hlt:i<l.toArray.size:=(Array.getElem?_eq_some_iff.1 ho).1;have hltl:i<l.length:=by simpa using hlt
  have hlis:i<listed.size:=by omega
  have hun':listed.getD i false=false:=by simp[hlis]at hun ⊢;exact hun
  have hol:l[i]? =some o:=by simpa using ho
  have hin:∀q,listed.getD q false=true->q<l.length:=fun q hq=>by
   rcases Nat.lt_or_ge q listed.size with h|h
   ·omega
   ·simp[Nat.not_lt.2 h]at hq
  have hst:=(inv3_at hlt' hdep V l 0 a0 h).1 i o hol w hg fun j hj hn=>by
   have hdj:listed.getD j false=true:=by
    have hn':=uses_needs hn;unfold needs at hn';simp only[List.any_eq_true,Bool.and_eq_true,beq_iff_eq]at hn';obtain⟨e,he,hb,rfl⟩:=hn';exact hdone e (by simpa using he) hb
   refine hr j hdj fun i' hb' hl' ht'=>?_
   cases hsj:st j with
   |true=>rfl
   |false=>
    exfalso;rcases hK2 i' (hin i' hl') hb' j (hin j hdj) ht' hsj i o ho hn with h|h
    ·rw[<- h,hun']at hl';cases hl'
    ·have:=hanc listed hcl i' i (hin i' hl') hl' h
     rw[hun']at this;cases this
  rw[Nat.zero_add]at hst;have hsel':∀cs b,o.op≠ .select cs b:=by
   intro cs b hc;unfold Region.noSelect at hsel;simp only[Array.all_eq_true]at hsel;have:=hsel i (by simpa using hlt);rw[(Array.getElem?_eq_some_iff.1 ho).2]at this;rw[hc]at this;simp at this
  have hsv:=stepV_congr (a:=fillD (fun j=>listed.getD j false) V l 0 a0) hsel' (by rw[fill_size,fill_size]) (fun d hd=>?_) hst
  ·refine stepV_wpOp ho ?_ hsv
   rintro v w' ⟨hgw,hR⟩;rw[fill_take (fun j=>listed.getD j false) V v l 0 a0 i o hol (by rw[Nat.zero_add];exact hun') fun q o' hq hne d hd1 hd2=>by
    have h1:=(hB' i o ho).2 q (by have:=(List.getElem?_eq_some_iff.1 hq).1;simpa using this);have hq':l.toArray[q]? =some o':=by simpa using hq
    simp[hne,hq',hd2,hd1]at h1]
   have hcl':=hcl.set hi;have e:(fun j=>if j=0+i then true else listed.getD j false)=fun j=>(listed.setIfInBounds i true).getD j false:=by
    funext j
    rw[Nat.zero_add];by_cases hj:j=i
    ·subst hj;simp[hlis]
    ·rw[if_neg hj,getD_set_ne false (fun e=>hj e.symm)]
   rw[e];refine ih _ _ w' (by simpa using hs) hcl' (Gt _ _ _ hg (TG i _ _ hg hgw)) (fun j hj hal=>?_) ?_
   ·have hzi:(fun q=>if q=0+i then v else V q)=fun q=>if q=i then v else V q:=by funext q;rw[Nat.zero_add]
    rw[hzi];by_cases hji:j=i
    ·subst hji;exact hR
    ·rw[getD_set_ne false (fun e=>hji e.symm)]at hj
     refine hdep j V _ w' (fun q hq=>?_) ?_
     ·show V q=if q=i then v else V q
      rw[if_neg];rintro rfl;rcases hq with h|h
      ·exact hji h.symm
      ·have:=hanc listed hcl j q (hin j hj) hj (hdw j q (hin j hj) h)
       rw[hun']at this;cases this
     have hold:=hr j hj fun i' hb' hl' ht'=>hal i' hb' (by
      by_cases h:i'=i
      ·subst h;simp[hlis]
      ·rw[getD_set_ne false (fun e=>h e.symm)];exact hl') ht'
     cases hbi:bar i with
     |false=>exact mono i j _ w w' hbi hg hgw hold
     |true=>
      refine monoS j _ w w' ?_ hg (TG i _ _ hg hgw) hold;rcases hK1 i hltl hbi j (hin j hj)with h|h|h|h
      ·exact absurd h hji
      ·exact hal i hbi (by simp[hlis]) h
      ·have:=hanc listed hcl j i (hin j hj) hj h
       rw[hun']at this;cases this
      ·exact h
   ·obtain⟨τ,ρ,e1,e2,_⟩:=rem_split (by simpa using hs) (mem_rem.2 ⟨hlt,hun⟩)
    rw[e2];rw[e1]at hf;simp only[List.length_append,List.length_cons]at hf ⊢;omega
  ·refine fill_at _ _ V d l 0 a0 a0 rfl rfl fun q o' hq hod=>?_
   rw[Nat.zero_add];have hq':l.toArray[q]? =some o':=by simpa using hq
   have hql:q<l.length:=(List.getElem?_eq_some_iff.1 hq).1;by_cases hqi:q=i
   ·subst hqi;rw[hun'];simp
   ·have h1:=(hB' i o ho).2 q (by simpa using hql)
    have hdc:(o.looksAt l.toArray).contains d=true:=by simpa using hd
    simp only[hqi,beq_iff_eq,hq',Option.bind_some,hod,hdc,Bool.not_true,Bool.false_or,Bool.or_eq_true,Bool.and_eq_true,decide_eq_true_eq,false_or]at h1;rcases h1.2 with⟨h2,h3⟩|⟨h2,h3⟩
    ·rw[decide_eq_true h2]
     unfold needs at h3;simp only[List.any_eq_true,Bool.and_eq_true,beq_iff_eq]at h3;obtain⟨e,he,hb,rfl⟩:=h3;exact hdone e (by simpa using he) hb
    ·rw[decide_eq_false (by omega)]
     by_cases hqd:listed.getD q false=true
     ·exfalso
      have:=htr.listed hcl q o' i (by omega) hq' (fun e he hb=>hcl q o' hq' hqd e he hb) h3;rw[hun']at this;cases this
     ·simpa using hqd
theorem wp_region_ind{id:Nat}{l:List Oper}{Q:Exit->Act->World->Prop}{a:Act}{w:World}(L:List Want3)(bar:List Nat)(hm:P.follows .mixedOrders=true)(hB:invB l.toArray=true)
  (hK:barB l.toArray (fun j=>(want3At L j).fixed) (fun i=>bar.contains i)=true)
  (hD:dep3B l.toArray L=true)
  (h:invList3 P l.toArray (Below w.heap.size) (Turns w.heap.size bar) (aliveB l.toArray (fun j=>(want3At L j).fixed) (fun i=>bar.contains i)) w.drew (fun j V w=>(want3At L j).holdsAt j (V j) V w) (Q .normal) l [] a):(Code.region id l.toArray true).wp P Q a w:=by
 refine Code.wp_mono (Q:=Only (Q .normal)) (fun e a w hq=>by cases e <;> first|exact hq|exact hq.elim) ?_;refine wp_region_any hm ?_;have hsz:∀{x:World},Below w.heap.size w.drew x->w.heap.size<=x.heap.size:=fun hx=>hx.size
 have hmono:∀{i j:Nat} {V:Nat->Value} {x y:World},Below x.heap.size x y->(want3At L j).holdsAt j (V j) V x->(want3At L j).holdsAt j (V j) V y:=fun {i j V x y} hb hr=>by
   cases e:want3At L j with
   |val u=>rw[e]at hr;exact hr
   |prop p=>rw[e]at hr;exact p.2 _ x y hb hr
   |of q p=>rw[e]at hr;exact fun h=>p.2 _ x y hb (hr h)
 have h0:=inv3_any (w0:=w.drew) (R:=fun j V w=>(want3At L j).holdsAt j (V j) V w) (dep:=dep3 L) (fun j i hd=>(dep3_lt hd)) (fun j V V' w hv hr=>by
   cases e:want3At L j with
   |val u=>rw[e]at hr;exact(hv j (.inl rfl)).symm.trans hr
   |prop p=>rw[e]at hr;exact(hv j (.inl rfl)) ▸ hr
   |of q p=>
    rw[e]at hr;by_cases hq:q<j
    ·have:=hv q (.inr (by unfold dep3;rw[e];simp[hq]))
     exact fun h=>this ▸ hr h
    ·exact fun h=>absurd h hq) (fun j i hj hd=>by
   unfold dep3B at hD;rw[List.all_eq_true]at hD;have h1:=hD j (List.mem_range.2 (by simpa using hj));rw[List.all_eq_true]at h1;have h2:=h1 i (List.mem_range.2 (by have:=dep3_lt hd;simp;omega));rw[hd]at h2;simpa using h2) hB hK (fun _ _ _ h1 h2=>h1.trans h2) (fun i x y hg ht=>by
   unfold Turns at ht
   split at ht
   ·exact ht
   ·exact ht.mono (hsz hg)) (fun i j v x y hbi hg ht hr=>by
   unfold Turns at ht;rw[hbi]at ht;exact hmono (i:=i) ht hr) (fun j v x y hs hg ht hr=>by
   cases e:want3At L j with
   |val u=>rw[e]at hr;exact hr
   |prop p=>rw[e]at hs;cases hs
   |of q p=>rw[e]at hs;cases hs) h l.toArray.size (Array.replicate l.toArray.size false) (fun _=>undef) w.drew (by simp) (fun j oj _ hl=>by rw[getD_replicate0]at hl;cases hl) (br) (fun j hj=>by rw[getD_replicate0]at hj;cases hj) ?_
 ·rw[fill_none]at h0
  ·exact h0
  ·intro j _;exact getD_replicate0 _ _
 ·refine Nat.le_trans (List.length_filter_le _ _) ?_
  simp
theorem ind_cons{G:World->World->Prop}{T:Nat->World->World->Prop}{alive:Nat->Bool}{w0:World}{R:Nat->(Nat->Value)->World->Prop}{K:Act->World->Prop}{o:Oper}{r:List Oper}{vs:List Value}{a:Act}
 (h1:∀w,G w0 w->(∀ j,j<vs.length->uses o j=true->R j (fun q=>vs.getD q undef) w)->wpList P ops (Leaves a o.dst fun v w'=>T vs.length w w'/\R vs.length (fun q=>(vs++[v]).getD q undef) w') [o] a w)
 (h2:∀v,invList3 P ops G T alive w0 R K r (vs++[v]) (a.put o.dst v)):invList3 P ops G T alive w0 R K (o::r) vs a:=⟨h1,h2⟩
theorem ind_done{G:World->World->Prop}{T:Nat->World->World->Prop}{alive:Nat->Bool}{w0:World}{R:Nat->(Nat->Value)->World->Prop}{K:Act->World->Prop}{vs:List Value}{a:Act}
 (h:∀w,G w0 w->(∀ j,j<vs.length->alive j=true->R j (fun q=>vs.getD q undef) w)->K a w):invList3 P ops G T alive w0 R K [] vs a:=h
end
end
section
open Go.RowKit Go.Lib Wd
def farB(x y:Int):Bool:=decide (x< -2147483648)||decide (2147483648<x)||(decide (y< -2147483648)||decide (2147483648<y))
theorem far_any(x y:Int)(w:World):Calls Tryz.prog 134 #[.int .i64 x,.int .i64 y] w fun e w'=>e=.returned (.bool (farB x y))/\w'=w:=by
 have HF:Hid (farB x y=(decide (x< -2147483648)||decide (2147483648<x)||(decide (y< -2147483648)||decide (2147483648<y)))):=rfl;obtain⟨b,hb⟩:∃b,farB x y=b:=⟨_,rfl⟩;rw[hb]at HF ⊢;clear hb;obtain⟨b0,h0⟩:∃b,decide (x< -2147483648)=b:=⟨_,rfl⟩;obtain⟨b1,h1⟩:∃b,decide (2147483648<x)=b:=⟨_,rfl⟩;obtain⟨b2,h2⟩:∃b,decide (y< -2147483648)=b:=⟨_,rfl⟩;obtain⟨b3,h3⟩:∃b,decide (2147483648<y)=b:=⟨_,rfl⟩;rw[h0,h1,h2,h3]at HF;cases b0 <;> cases b1 <;> cases b2 <;> cases b3
 all_goals
  go_enter Tryz.func134,Tryz.ntmps134
  go_wp2;go_ret;exact⟨ret_bool (by rw[HF.out];rfl),rfl⟩
theorem put_two{w:World}{g:Nat}{a b:Value}{t:TypeId}(h:w.heap[g]? =some (.cells #[a,b] t (0,0)))(c d:Value):((w.setCell ⟨g,0,none⟩ c).setCell ⟨g,1,none⟩ d).heap[g]? =some (.cells #[c,d] t (0,0)):=by
 rw[Sort.setCell_eq,Sort.setCell_eq];simp[Sort.mapBlock,Array.getElem?_modify,h,Sort.onCells]
theorem mul_flip(x y:E2):mulE x y=mulE y x:=by unfold mulE;ext <;> simp only <;> grind
theorem rcentre_in(z:E2)(hz:Sm 1073741824 z)(r:Nat)(hr:r<=12)(w:World):
  Calls Tryz.prog 15 #[vE z,.int .i64 r] w fun e w'=>e=.returned (.tuple #[.int .i64 (atE (12-r) z).1,.int .i64 (atE (12-r) z).2,.bool true])/\Below w.heap.size w w':=by
 have hm:(12:Int)-(r:Int)=((12-r:Nat):Int):=by omega
 have hm12:12-r<=12:=by omega
 have HBE:=Hd (rbeta_in (12-r) hm12);have hms:=mid_sm hm12 (hz.mono (show(1073741824:Int)<=3221225472 by decide));have HMU:=Hd (rmul_in z (bE (12-r)) (hz.mono (by decide)) ((bE_sm hm12).mono (by decide)) (by rw[mul_flip];exact hms.mono (by decide)));have he:atE (12-r) z=(52*(mulE (bE (12-r)) z).1+26*(mulE (bE (12-r)) z).2,45*(mulE (bE (12-r)) z).2):=rfl;rw[he];rw[mul_flip]at HMU;generalize mulE (bE (12-r)) z=u at *;generalize bE (12-r)=b at *;generalize 12-r=m at *;obtain⟨z1,z2⟩:=z;obtain⟨u1,u2⟩:=u;simp only[vE]at *;unfold Sm at hz hms;simp only at hz hms;obtain⟨hz1,hz2,hz3,hz4⟩:=hz;obtain⟨hm1,hm2,hm3,hm4⟩:=hms;have d1:decide ((r:Int)<0)=false:=decide_eq_false (by omega);have d2:decide (12<(r:Int))=false:=decide_eq_false (by omega);have d3:decide (z1< -1073741824)=false:=decide_eq_false (by omega);have d4:decide (1073741824<z1)=false:=decide_eq_false (by omega);have d5:decide (z2< -1073741824)=false:=decide_eq_false (by omega);have d6:decide (1073741824<z2)=false:=decide_eq_false (by omega);have T0:Hid (Two (w.alloc (.cells #[.int .i64 z1,.int .i64 z2] 37)) w.heap.size (.int .i64 z1) (.int .i64 z2)):=Two.of_row (t:=37) (f:=_) (heap_new _ _ _ rfl);have B0:Hid (Below w.heap.size w (w.alloc (.cells #[.int .i64 z1,.int .i64 z2] 37))):=br.alloc lr _;have s0:w.heap.size<(w.alloc (.cells #[.int .i64 z1,.int .i64 z2] 37)).heap.size:=by simp
 clear he
 go_enter Tryz.func15,Tryz.ntmps15
 go_upto_region 1 with(fail)
 generalize w.alloc (.cells #[.int .i64 z1,.int .i64 z2] 37)=w1 at *;obtain⟨t0,t1⟩:=T0.out
 go_wp2_with fail
 refine(HBE.out _).mono ?_;rintro e w3 ⟨rfl,hb3⟩;have K3:=hb3.alloc hb3.size (.cells #[.int .i64 b.1,.int .i64 b.2] 37);have P3:=Hd (T0.out.later s0 K3);have B3:Hid (Below w.heap.size w (w3.alloc (.cells #[.int .i64 b.1,.int .i64 b.2] 37))):=B0.out.trans (K3.mono B0.out.size);have T3:Hid (Two (w3.alloc (.cells #[.int .i64 b.1,.int .i64 b.2] 37)) w3.heap.size (.int .i64 b.1) (.int .i64 b.2)):=Two.of_row (t:=37) (f:=_) (heap_new _ _ _ rfl);have hs3:w3.heap.size<(w3.alloc (.cells #[.int .i64 b.1,.int .i64 b.2] 37)).heap.size:=by simp
 have hs4:w.heap.size<w3.heap.size:=by have:=hb3.size;omega
 clear hb3 K3 T0 B0 t0 t1
 go_upto_region 4 with(fail)
 generalize w3.alloc (.cells #[.int .i64 b.1,.int .i64 b.2] 37)=w4 at *;obtain⟨t0,t1⟩:=T3.out;obtain⟨p0,p1⟩:=P3.out
 go_wp2_with fail
 refine(HMU.out _).mono ?_;rintro e w5 ⟨rfl,hb5⟩;have K5:=hb5.alloc hb5.size (.cells #[.int .i64 u1,.int .i64 u2] 37);have B5:Hid (Below w.heap.size w (w5.alloc (.cells #[.int .i64 u1,.int .i64 u2] 37)).drew):=(B3.out.trans (K5.mono B3.out.size)).drew;have T5:Hid (Two (w5.alloc (.cells #[.int .i64 u1,.int .i64 u2] 37)) w5.heap.size (.int .i64 u1) (.int .i64 u2)):=Two.of_row (t:=37) (f:=_) (heap_new _ _ _ rfl);have hs5:w5.heap.size<(w5.alloc (.cells #[.int .i64 u1,.int .i64 u2] 37)).heap.size:=by simp
 clear hb5 K5 T3 P3 B3 t0 t1 p0 p1
 go_upto_region 5 with(fail)
 generalize w5.alloc (.cells #[.int .i64 u1,.int .i64 u2] 37)=w6 at *;obtain⟨t0,t1⟩:=T5.out
 go_wp2_with(first|(with_reducible refine wp_region_lex (by kernel_rfl) (by kernel_rfl) ?_)|(with_reducible refine OnlyG.intro (by kernel_rfl) ?_))
 exact bodyPost_ret (v:=.tuple #[.int .i64 (52*u1+26*u2),.int .i64 (45*u2),.bool true]) (by simp[results,Tryz.results15,go_sem, *]) rfl ⟨rfl,B5.out⟩
theorem hexC_mul(m:Nat)(z:E2)(k:Nat):spotE (mulE (3*z.1+(kapE k).1,3*z.2+(kapE k).2) (bE m))=hexC m z k:=by
 unfold hexC midE;generalize bE m=b;generalize kapE k=c;congr 1;unfold mulE addE;ext <;> simp only <;> grind
theorem sm_tri{z κ:E2}(hz:Sm 1073741824 z)(hk:Sm 2 κ):Sm 3221225474 (3*z.1+κ.1,3*z.2+κ.2):=by
 unfold Sm at *;simp only;omega
theorem mid_sm'{m:Nat}(hm:m<=12){y:E2}(hy:Sm 3221225474 y):Sm 1000000000000000 (mulE (bE m) y):=by
 obtain⟨q0,q1,q2,q3,q4,q5,q6,q7,q8,q9,q10,q11,q12⟩:=bE_tab;obtain⟨y1,y2⟩:=y;unfold Sm at hy ⊢;unfold mulE;rcases upto12 hm with rfl|rfl|rfl|rfl|rfl|rfl|rfl|rfl|rfl|rfl|rfl|rfl|rfl <;> simp only[q0,q1,q2,q3,q4,q5,q6,q7,q8,q9,q10,q11,q12]at hy ⊢ <;> omega
theorem rhex_in(z:E2)(hz:Sm 1073741824 z)(r:Nat)(hr:r<=12)(w:World):
  Calls Tryz.prog 135 #[vE z,.int .i64 r] w fun e w'=>∃ao c,e=.returned (.slice ao 6 c)/\w'.ownsRow w.heap.size 26 2 (.slice ao 6 c) 6 (prV (hexL (12-r) z))/\Below w.heap.size w w':=by
 obtain⟨i1,hi1,hy0,hy1,hy2⟩:=info_parts info_pt;have HCE:=Hd (rcentre_in z hz r hr);have hm:(12:Int)-(r:Int)=((12-r:Nat):Int):=by omega
 have hm12:12-r<=12:=by omega
 have HBE:=Hd (rbeta_in (12-r) hm12);have HKK:Hid (∀ k,k<6->(∀ w,Calls Tryz.prog 36 #[vE (3*z.1+(kapE k).1,3*z.2+(kapE k).2),vE (bE (12-r))] w fun e w'=>e=.returned (.tuple #[vE (mulE (3*z.1+(kapE k).1,3*z.2+(kapE k).2) (bE (12-r))),.bool true])/\Below w.heap.size w w')/\
   Sm 1000000000000000 (mulE (3*z.1+(kapE k).1,3*z.2+(kapE k).2) (bE (12-r)))/\spotE (mulE (3*z.1+(kapE k).1,3*z.2+(kapE k).2) (bE (12-r)))=prG (hexL (12-r) z) k/\Sm 2 (kapE k)):=fun k hk=>by
  have h1:=sm_tri hz (kap_sm k);have h2:=mid_sm' hm12 h1;rw[mul_flip]at h2;exact⟨fun w=>rmul_in _ _ (h1.mono (by decide)) ((bE_sm hm12).mono (by decide)) (h2.mono (by decide)) w,h2,by rw[hexC_mul,hexL_get _ _ hk],kap_sm k⟩
 have HTK:Hid (∀ k,k<6->prV ((hexL (12-r) z).take (k+1))=prV ((hexL (12-r) z).take k)++[.int .i64 (prG (hexL (12-r) z) k).1,.int .i64 (prG (hexL (12-r) z) k).2]):=fun k hk=>by
  rw[take_pr _ (by rw[hexL_len];exact hk),prV_snoc]
 have HTE:Hid ((hexL (12-r) z).take 6=hexL (12-r) z):=List.take_of_length_le (by rw[hexL_len];exact lr);generalize hexL (12-r) z=L at *;generalize atE (12-r) z=ce at *;generalize bE (12-r)=b at *;generalize 12-r=m at *;obtain⟨z1,z2⟩:=z;obtain⟨b1,b2⟩:=b;simp only[vE]at *;unfold Sm at hz;simp only at hz;obtain⟨hz1,hz2,hz3,hz4⟩:=hz;have T0:Hid (Two (w.alloc (.cells #[.int .i64 z1,.int .i64 z2] 37)) w.heap.size (.int .i64 z1) (.int .i64 z2)):=Two.of_row (t:=37) (f:=_) (heap_new _ _ _ rfl);have B0:Hid (Below w.heap.size w (w.alloc (.cells #[.int .i64 z1,.int .i64 z2] 37))):=br.alloc lr _;have s0:w.heap.size<(w.alloc (.cells #[.int .i64 z1,.int .i64 z2] 37)).heap.size:=by simp
 go_enter Tryz.func135,Tryz.ntmps135
 go_upto_region 1 with(fail)
 generalize w.alloc (.cells #[.int .i64 z1,.int .i64 z2] 37)=w1 at *;obtain⟨t0,t1⟩:=T0.out
 go_wp2_with fail
 refine(HCE.out _).mono ?_;rintro e w2 ⟨rfl,hb2⟩;have T2:=Hd (T0.out.later s0 hb2);have B2:=Hd (B0.out.trans (hb2.mono B0.out.size));have s2:w.heap.size<w2.heap.size:=by have:=hb2.size;omega
 clear hb2 T0 B0 t0 t1
 go_wp2_with fail
 refine(HBE.out _).mono ?_;rintro e w3 ⟨rfl,hb3⟩;have K3:=hb3.alloc hb3.size (.cells #[.int .i64 b1,.int .i64 b2] 37);have T3:=Hd (T2.out.later s2 K3);have B3:Hid (Below w.heap.size w (w3.alloc (.cells #[.int .i64 b1,.int .i64 b2] 37))):=B2.out.trans (K3.mono B2.out.size);have P3:Hid (Two (w3.alloc (.cells #[.int .i64 b1,.int .i64 b2] 37)) w3.heap.size (.int .i64 b1) (.int .i64 b2)):=Two.of_row (t:=37) (f:=_) (heap_new _ _ _ rfl);have s3:w3.heap.size<(w3.alloc (.cells #[.int .i64 b1,.int .i64 b2] 37)).heap.size/\w.heap.size<w3.heap.size:=⟨by simp,by have:=hb3.size;omega⟩;clear hb3 K3 T2 B2
 go_upto_region 5 with(fail)
 generalize w3.alloc (.cells #[.int .i64 b1,.int .i64 b2] 37)=w4 at *;go_wp2;have hkl:(prV ((List.range 6).map kapE)).toArray=#[.int .i64 1,.int .i64 1,.int .i64 (-1),.int .i64 2,.int .i64 (-2),.int .i64 1,.int .i64 (-1),.int .i64 (-1),.int .i64 1,.int .i64 (-2),.int .i64 2,.int .i64 (-1)]:=rfl;have hka:=prAt_new w4 ((List.range 6).map kapE) 119;rw[hkl]at hka;have K7:=(Below.refl w4.heap.size w4).alloc lr (.cells #[.int .i64 1,.int .i64 1,.int .i64 (-1),.int .i64 2,.int .i64 (-2),.int .i64 1,.int .i64 (-1),.int .i64 (-1),.int .i64 1,.int .i64 (-2),.int .i64 2,.int .i64 (-1)] 119);have B7:=Hd (B3.out.trans (K7.mono B3.out.size));have T7:=Hd (T3.out.later (by omega) K7);have P7:=Hd (P3.out.later s3.1 K7);have HKA:=Hd hka;have s7:w4.heap.size<(w4.alloc (.cells #[.int .i64 1,.int .i64 1,.int .i64 (-1),.int .i64 2,.int .i64 (-2),.int .i64 1,.int .i64 (-1),.int .i64 (-1),.int .i64 1,.int .i64 (-2),.int .i64 2,.int .i64 (-1)] 119)).heap.size:=by simp
 clear hka hkl K7 B3 T3 P3;generalize w4.alloc (.cells #[.int .i64 1,.int .i64 1,.int .i64 (-1),.int .i64 2,.int .i64 (-2),.int .i64 1,.int .i64 (-1),.int .i64 (-1),.int .i64 1,.int .i64 (-2),.int .i64 2,.int .i64 (-1)] 119)=w7 at *;have hs7:=B7.out.size;have HKG:Hid (∀ k,k<6->prG ((List.range 6).map kapE) k=kapE k):=fun k hk=>by
  unfold prG;rw[List.getD_eq_getElem?_getD,List.getElem?_map,List.getElem?_range hk];rfl
 go_loopw [11,12] (fun ov iv wr=>∃(k:Nat) (oo:Option Addr) (oc:Nat),k<=6/\iv=.int .i64 k/\ov=.slice oo k oc/\Hid (wr.ownsRow w7.heap.size 26 2 (.slice oo k oc) k (prV (L.take k))/\Below w7.heap.size w7 wr)) (fun _ i _=>6-(intOf i).toNat)
 case atStart=>exact⟨0,none,0,by omega,rfl,rfl,World.ownsRow_nil _ _ _ _,br⟩
 case round=>
  obtain⟨k,oo,oc,hk,rfl,rfl,HI⟩:=hrel;obtain⟨wo,rfl⟩:∃wo,wo=wr:=⟨_,rfl⟩;by_cases hlt:k<6
  ·have q1:decide ((k:Int)<6)=true:=decide_eq_true (by omega)
   obtain⟨g,off,hg0,hg,hc⟩:=(HKA.out.below HI.out.2) (by simp);cases hg0;obtain⟨c0,c1⟩:=hc k (by simpa using hlt);rw[HKG.out k hlt]at c0 c1;rw[Nat.zero_add]at c0 c1;obtain⟨hmu,hsm,hsp,hks⟩:=HKK.out k hlt;have HTS:=Hd (HTK.out k hlt);generalize prG L k=x at *;generalize kapE k=κ at *;obtain⟨κ1,κ2⟩:=κ;simp only at hmu hsm hsp c0 c1;have HMU:=Hd hmu;have HSP:=Hd hsp;generalize mulE (3*z1+κ1,3*z2+κ2) (b1,b2)=u at *;obtain⟨u1,u2⟩:=u;unfold Sm at hsm hks;simp only at hsm hks;obtain⟨hs1,hs2,hs3,hs4⟩:=hsm;obtain⟨hk1,hk2,hk3,hk4⟩:=hks;obtain⟨t0,t1⟩:=T7.out.later (by omega) HI.out.2;obtain⟨p0,p1⟩:=P7.out.later (by omega) HI.out.2;have hso:=HI.out.2.size;have hkk:(k:Int)<6:=by omega
   have hkk0:(0:Int)<=(k:Int):=by omega
   clear hc hmu hsp
   go_upto_region 10 with(fail)
   have HC:Hid (∀ wx,Below wo.heap.size wo wx->Two wx w.heap.size (.int .i64 z1) (.int .i64 z2)/\Two wx w3.heap.size (.int .i64 b1) (.int .i64 b2)):=fun wx hx=>⟨T7.out.later (by omega) (HI.out.2.trans (hx.mono hso)),P7.out.later (by omega) (HI.out.2.trans (hx.mono hso))⟩
   have HD:Hid (∀ wx,Below wo.heap.size wo wx->wx.cell? ⟨w4.heap.size,k*2,none⟩=some (.int .i64 κ1)/\wx.cell? ⟨w4.heap.size,k*2+1,none⟩=some (.int .i64 κ2)):=fun wx hx=>⟨(hx.cell (p:=⟨w4.heap.size,_,none⟩) hg).trans c0,(hx.cell (p:=⟨w4.heap.size,_,none⟩) hg).trans c1⟩
   clear t0 t1 p0 p1 c0 c1;refine wp_region_ind ([.val (.pointer (some ⟨w.heap.size,0,none⟩)),.val (.int .i64 z1),.val (.int .i64 (3*z1)),.val (.int .i64 k),.val (.pointer (some ⟨w4.heap.size,k*2,none⟩)),.val (.pointer (some ⟨w4.heap.size,k*2,none⟩)),.val (.int .i64 κ1),.val (.int .i64 (3*z1+κ1)),.val (.pointer (some ⟨w.heap.size,1,none⟩)),.val (.int .i64 z2),.val (.int .i64 (3*z2)),.val (.int .i64 k),.val (.pointer (some ⟨w4.heap.size,k*2,none⟩)),.val (.pointer (some ⟨w4.heap.size,k*2+1,none⟩)),.val (.int .i64 κ2),.val (.int .i64 (3*z2+κ2)),.val (.agg #[.int .i64 (3*z1+κ1),.int .i64 (3*z2+κ2)]),.val (.agg #[.int .i64 b1,.int .i64 b2]),.val (.tuple #[.agg #[.int .i64 u1,.int .i64 u2],.bool true]),.val (.tuple #[.agg #[.int .i64 u1,.int .i64 u2],.bool true]),.val (.agg #[.int .i64 u1,.int .i64 u2]),.val (.bool true),.prop (pNew wo.heap.size #[.int .i64 0,.int .i64 0] 37),.of 22 (pNew wo.heap.size #[.int .i64 u1,.int .i64 u2] 37),.val (.bool true)]:List Want3) [23] (by kernel_rfl) (by kernel_rfl) (by kernel_rfl) (by kernel_rfl) ?_;refine ind_cons (fun wx hg hd=>?_) (fun v0=>?_)
   ·have hx:=hxo wo hg
    clear hd hg;go_wp2;exact⟨_,rfl,br,rfl⟩
   (try simp only[pq])
   refine ind_cons (fun wx hg hd=>?_) (fun v1=>?_)
   ·have hx:=hxo wo hg
    (try(have ee:v0=(.pointer (some ⟨w.heap.size,0,none⟩):Value):=hd 0 (by simp) (by decide);subst ee))
    clear hd hg;obtain⟨k1,k2⟩:=(HC.out _ hx).1;go_wp2;exact⟨_,rfl,br,rfl⟩
   (try simp only[pq])
   refine ind_cons (fun wx hg hd=>?_) (fun v2=>?_)
   ·have hx:=hxo wo hg
    (try(have ee:v1=(.int .i64 z1:Value):=hd 1 (by simp) (by decide);subst ee))
    clear hd hg;go_wp2;exact⟨_,rfl,br,rfl⟩
   (try simp only[pq])
   refine ind_cons (fun wx hg hd=>?_) (fun v3=>?_)
   ·have hx:=hxo wo hg
    clear hd hg;go_wp2;exact⟨_,rfl,br,rfl⟩
   (try simp only[pq])
   refine ind_cons (fun wx hg hd=>?_) (fun v4=>?_)
   ·have hx:=hxo wo hg
    (try(have ee:v3=(.int .i64 k:Value):=hd 3 (by simp) (by decide);subst ee))
    clear hd hg;go_wp2;exact⟨_,rfl,br,rfl⟩
   (try simp only[pq])
   refine ind_cons (fun wx hg hd=>?_) (fun v5=>?_)
   ·have hx:=hxo wo hg
    (try(have ee:v4=(.pointer (some ⟨w4.heap.size,k*2,none⟩):Value):=hd 4 (by simp) (by decide);subst ee))
    clear hd hg;go_wp2;exact⟨_,rfl,br,rfl⟩
   (try simp only[pq])
   refine ind_cons (fun wx hg hd=>?_) (fun v6=>?_)
   ·have hx:=hxo wo hg
    (try(have ee:v5=(.pointer (some ⟨w4.heap.size,k*2,none⟩):Value):=hd 5 (by simp) (by decide);subst ee))
    clear hd hg;obtain⟨k1,k2⟩:=HD.out _ hx;go_wp2;exact⟨_,rfl,br,rfl⟩
   (try simp only[pq])
   refine ind_cons (fun wx hg hd=>?_) (fun v7=>?_)
   ·have hx:=hxo wo hg
    (try(have ee:v2=(.int .i64 (3*z1):Value):=hd 2 (by simp) (by decide);subst ee))
    (try(have ee:v6=(.int .i64 κ1:Value):=hd 6 (by simp) (by decide);subst ee))
    clear hd hg;go_wp2;exact⟨_,rfl,br,rfl⟩
   (try simp only[pq])
   refine ind_cons (fun wx hg hd=>?_) (fun v8=>?_)
   ·have hx:=hxo wo hg
    clear hd hg;go_wp2;exact⟨_,rfl,br,rfl⟩
   (try simp only[pq])
   refine ind_cons (fun wx hg hd=>?_) (fun v9=>?_)
   ·have hx:=hxo wo hg
    (try(have ee:v8=(.pointer (some ⟨w.heap.size,1,none⟩):Value):=hd 8 (by simp) (by decide);subst ee))
    clear hd hg;obtain⟨k1,k2⟩:=(HC.out _ hx).1;go_wp2;exact⟨_,rfl,br,rfl⟩
   (try simp only[pq])
   refine ind_cons (fun wx hg hd=>?_) (fun v10=>?_)
   ·have hx:=hxo wo hg
    (try(have ee:v9=(.int .i64 z2:Value):=hd 9 (by simp) (by decide);subst ee))
    clear hd hg;go_wp2;exact⟨_,rfl,br,rfl⟩
   (try simp only[pq])
   refine ind_cons (fun wx hg hd=>?_) (fun v11=>?_)
   ·have hx:=hxo wo hg
    clear hd hg;go_wp2;exact⟨_,rfl,br,rfl⟩
   (try simp only[pq])
   refine ind_cons (fun wx hg hd=>?_) (fun v12=>?_)
   ·have hx:=hxo wo hg
    (try(have ee:v11=(.int .i64 k:Value):=hd 11 (by simp) (by decide);subst ee))
    clear hd hg;go_wp2;exact⟨_,rfl,br,rfl⟩
   (try simp only[pq])
   refine ind_cons (fun wx hg hd=>?_) (fun v13=>?_)
   ·have hx:=hxo wo hg
    (try(have ee:v12=(.pointer (some ⟨w4.heap.size,k*2,none⟩):Value):=hd 12 (by simp) (by decide);subst ee))
    clear hd hg;go_wp2;exact⟨_,rfl,br,rfl⟩
   (try simp only[pq])
   refine ind_cons (fun wx hg hd=>?_) (fun v14=>?_)
   ·have hx:=hxo wo hg
    (try(have ee:v13=(.pointer (some ⟨w4.heap.size,k*2+1,none⟩):Value):=hd 13 (by simp) (by decide);subst ee))
    clear hd hg;obtain⟨k1,k2⟩:=HD.out _ hx;go_wp2;exact⟨_,rfl,br,rfl⟩
   (try simp only[pq])
   refine ind_cons (fun wx hg hd=>?_) (fun v15=>?_)
   ·have hx:=hxo wo hg
    (try(have ee:v10=(.int .i64 (3*z2):Value):=hd 10 (by simp) (by decide);subst ee))
    (try(have ee:v14=(.int .i64 κ2:Value):=hd 14 (by simp) (by decide);subst ee))
    clear hd hg;go_wp2;exact⟨_,rfl,br,rfl⟩
   (try simp only[pq])
   refine ind_cons (fun wx hg hd=>?_) (fun v16=>?_)
   ·have hx:=hxo wo hg
    (try(have ee:v7=(.int .i64 (3*z1+κ1):Value):=hd 7 (by simp) (by decide);subst ee))
    (try(have ee:v15=(.int .i64 (3*z2+κ2):Value):=hd 15 (by simp) (by decide);subst ee))
    clear hd hg;go_wp2;exact⟨_,rfl,br,rfl⟩
   (try simp only[pq])
   refine ind_cons (fun wx hg hd=>?_) (fun v17=>?_)
   ·have hx:=hxo wo hg
    clear hd hg;obtain⟨k1,k2⟩:=(HC.out _ hx).2;go_wp2;exact⟨_,rfl,br,rfl⟩
   (try simp only[pq])
   refine ind_cons (fun wx hg hd=>?_) (fun v18=>?_)
   ·have hx:=hxo wo hg
    (try(have ee:v16=(.agg #[.int .i64 (3*z1+κ1),.int .i64 (3*z2+κ2)]:Value):=hd 16 (by simp) (by decide);subst ee))
    (try(have ee:v17=(.agg #[.int .i64 b1,.int .i64 b2]:Value):=hd 17 (by simp) (by decide);subst ee))
    clear hd hg
    go_wp2_with fail
    refine(HMU.out _).mono ?_;rintro e w' ⟨rfl,hb⟩;go_wp2;exact⟨_,rfl,hb,rfl⟩
   (try simp only[pq])
   refine ind_cons (fun wx hg hd=>?_) (fun v19=>?_)
   ·have hx:=hxo wo hg
    (try(have ee:v18=(.tuple #[.agg #[.int .i64 u1,.int .i64 u2],.bool true]:Value):=hd 18 (by simp) (by decide);subst ee))
    clear hd hg;go_wp2;exact⟨_,rfl,br,rfl⟩
   (try simp only[pq])
   refine ind_cons (fun wx hg hd=>?_) (fun v20=>?_)
   ·have hx:=hxo wo hg
    (try(have ee:v19=(.tuple #[.agg #[.int .i64 u1,.int .i64 u2],.bool true]:Value):=hd 19 (by simp) (by decide);subst ee))
    clear hd hg;go_wp2;exact⟨_,rfl,br,rfl⟩
   (try simp only[pq])
   refine ind_cons (fun wx hg hd=>?_) (fun v21=>?_)
   ·have hx:=hxo wo hg
    (try(have ee:v19=(.tuple #[.agg #[.int .i64 u1,.int .i64 u2],.bool true]:Value):=hd 19 (by simp) (by decide);subst ee))
    clear hd hg;go_wp2;exact⟨_,rfl,br,rfl⟩
   (try simp only[pq])
   refine ind_cons (fun wx hg hd=>?_) (fun v22=>?_)
   ·have hx:=hxo wo hg
    clear hd hg;go_wp2;exact⟨_,rfl,br.alloc lr _,_,rfl,hx.size,by simp,heap_new _ _ _ rfl⟩
   (try simp only[pq])
   refine ind_cons (fun wx hg hd=>?_) (fun v23=>?_)
   ·have hx:=hxo wo hg
    (try(have ee:v20=(.agg #[.int .i64 u1,.int .i64 u2]:Value):=hd 20 (by simp) (by decide);subst ee))
    have hp22:(pNew wo.heap.size #[.int .i64 0,.int .i64 0] 37:SP).1 v22 wx:=hd 22 (by simp) (by decide);clear hd;obtain⟨g,rfl,hg1,hg2,hg3⟩:=hp22;have hP:Two2 wx g (.int .i64 0) (.int .i64 0):=Two2.of_row (t:=37) hg3;obtain⟨⟨y0,y1⟩,y2,y3⟩:=hP;go_wp2;exact⟨undef,rfl,((Below.refl _ wx).setCell (p:=⟨g,0,none⟩) hg1 (.int .i64 u1)).setCell (p:=⟨g,1,none⟩) hg1 (.int .i64 u2),fun _=>⟨g,rfl,hg1,(by simpa using hg2),put_two hg3 (.int .i64 u1) (.int .i64 u2)⟩⟩
   (try simp only[pq])
   refine ind_cons (fun wx hg hd=>?_) (fun v24=>?_)
   ·have hx:=hxo wo hg
    (try(have ee:v21=(.bool true:Value):=hd 21 (by simp) (by decide);subst ee))
    clear hd hg;go_wp2;exact⟨_,rfl,br,rfl⟩
   (try simp only[pq])
   refine ind_done (fun wx hg hd=>?_);have hx:=hxo wo hg
   (have ee:v0=(.pointer (some ⟨w.heap.size,0,none⟩):Value):=hd 0 (by simp) (by kernel_rfl);subst ee)
   (have ee:v1=(.int .i64 z1:Value):=hd 1 (by simp) (by kernel_rfl);subst ee)
   (have ee:v2=(.int .i64 (3*z1):Value):=hd 2 (by simp) (by kernel_rfl);subst ee)
   (have ee:v3=(.int .i64 k:Value):=hd 3 (by simp) (by kernel_rfl);subst ee)
   (have ee:v4=(.pointer (some ⟨w4.heap.size,k*2,none⟩):Value):=hd 4 (by simp) (by kernel_rfl);subst ee)
   (have ee:v5=(.pointer (some ⟨w4.heap.size,k*2,none⟩):Value):=hd 5 (by simp) (by kernel_rfl);subst ee)
   (have ee:v6=(.int .i64 κ1:Value):=hd 6 (by simp) (by kernel_rfl);subst ee)
   (have ee:v7=(.int .i64 (3*z1+κ1):Value):=hd 7 (by simp) (by kernel_rfl);subst ee)
   (have ee:v8=(.pointer (some ⟨w.heap.size,1,none⟩):Value):=hd 8 (by simp) (by kernel_rfl);subst ee)
   (have ee:v9=(.int .i64 z2:Value):=hd 9 (by simp) (by kernel_rfl);subst ee)
   (have ee:v10=(.int .i64 (3*z2):Value):=hd 10 (by simp) (by kernel_rfl);subst ee)
   (have ee:v11=(.int .i64 k:Value):=hd 11 (by simp) (by kernel_rfl);subst ee)
   (have ee:v12=(.pointer (some ⟨w4.heap.size,k*2,none⟩):Value):=hd 12 (by simp) (by kernel_rfl);subst ee)
   (have ee:v13=(.pointer (some ⟨w4.heap.size,k*2+1,none⟩):Value):=hd 13 (by simp) (by kernel_rfl);subst ee)
   (have ee:v14=(.int .i64 κ2:Value):=hd 14 (by simp) (by kernel_rfl);subst ee)
   (have ee:v15=(.int .i64 (3*z2+κ2):Value):=hd 15 (by simp) (by kernel_rfl);subst ee)
   (have ee:v16=(.agg #[.int .i64 (3*z1+κ1),.int .i64 (3*z2+κ2)]:Value):=hd 16 (by simp) (by kernel_rfl);subst ee)
   (have ee:v17=(.agg #[.int .i64 b1,.int .i64 b2]:Value):=hd 17 (by simp) (by kernel_rfl);subst ee)
   (have ee:v18=(.tuple #[.agg #[.int .i64 u1,.int .i64 u2],.bool true]:Value):=hd 18 (by simp) (by kernel_rfl);subst ee)
   (have ee:v19=(.tuple #[.agg #[.int .i64 u1,.int .i64 u2],.bool true]:Value):=hd 19 (by simp) (by kernel_rfl);subst ee)
   (have ee:v20=(.agg #[.int .i64 u1,.int .i64 u2]:Value):=hd 20 (by simp) (by kernel_rfl);subst ee)
   (have ee:v21=(.bool true:Value):=hd 21 (by simp) (by kernel_rfl);subst ee)
   have hp23:(pNew wo.heap.size #[.int .i64 u1,.int .i64 u2] 37:SP).1 v22 wx:=hd 23 (by simp) (by kernel_rfl) (by decide)
   (have ee:v24=(.bool true:Value):=hd 24 (by simp) (by kernel_rfl);subst ee)
   clear hd hg
   (try go_simp)
   obtain⟨g,rfl,hg1,hg2,hg3⟩:=hp23;obtain⟨y0,y1⟩:Two wx g (.int .i64 u1) (.int .i64 u2):=Two.of_row (t:=37) hg3;have hown:=own_later HI.out.1 hx;have hbB:=HI.out.2.trans (hx.mono hso);have hsb:w7.heap.size<=wx.heap.size:=hbB.size;have HBB:=Hd hbB;have hxx:x=(52*u1+26*u2,45*u2):=HSP.out.symm;have HXX:=Hd hxx;clear hx HC HD HI hg3 hg1 hbB hxx HMU
   go_wp2_with(at_builtin;refine wpList_append_own _ rfl (.tmp 63) (.tmp 75) 27 rfl w7.heap.size 26 i1 (.agg #[.int .i64 0,.int .i64 0]) 2 16 Tryz.underlying27 hi1 hy0 hy1 hy2 rfl (by decide) _ _ _ rfl (hown.alloc _) ⟨wx.heap.size,0,none⟩ 1 1 [.int .i64 (52*u1+26*u2),.int .i64 (45*u2)] rfl rfl (cells_new _ _ _ _ rfl) (by simp[Value.oneCell']) (by unfold maxLen;omega) (by omega) (by simp;omega) ?_;intro v' w8 hown1 hgrow _)
   have HB8:Hid (Below w7.heap.size w7 w8):=below_append (HBB.out.alloc hsb (.cells #[.int .i64 (52*u1+26*u2),.int .i64 (45*u2)] 26)) (hown.alloc (.cells #[.int .i64 (52*u1+26*u2),.int .i64 (45*u2)] 26)) (by simp;omega) hgrow;obtain⟨ao',c',rfl,_⟩:=own_form hown1;have HO8:Hid (w8.ownsRow w7.heap.size 26 2 (.slice ao' (k+1) c') (k+1) (prV (L.take (k+1)))):=by rw[HTS.out,HXX.out];exact hown1
   clear hown1 hgrow hown HBB y0 y1 hg2;go_wp2
   go_roundw
   case rel=>exact⟨k+1,ao',c',by omega,by go_num,rfl,HO8.out,HB8.out⟩
   case measure=>simp[intOf];omega
  ·obtain rfl:k=6:=by omega
   have q1:decide (((6:Nat):Int)<6)=false:=by decide
   have hown:=HI.out.1;rw[HTE.out]at hown;have HO:=Hd (own_base hown hs7);have HB:=Hd (B7.out.trans (HI.out.2.mono hs7));clear HI hown;go_wp2;go_ret;exact⟨oo,oc,rfl,HO.out,HB.out⟩
def wsL(r:Nat)(D:List E2):List Int:=(D.filter fun z=>okB r z).map fun z=>((wordN r z:Nat):Int)
def BoxP(w:World)(lo hi:E2)(r:Int)(e:Ending)(w':World):Prop:=
 if chE lo hi r=0 then
  (∃ D ao c n,AllOf (12-r.toNat) (triE lo) (triE hi) D/\D.length<=20000/\e=.returned (.tuple #[.slice ao n c,.int .i64 0])/\n=(wsL r.toNat D).length/\w'.ownsRow w.heap.size 35 1 (.slice ao n c) n (uV (srt (wsL r.toNat D))))∨
  (∃ D:List E2,D.Nodup/\D.length=20001/\(∀ z∈D,TouchP (hexC (12-r.toNat) z) (triE lo) (triE hi))/\e=.returned (.tuple #[.slice none 0 0,.int .i64 7]))
 else e=.returned (.tuple #[.slice none 0 0,.int .i64 (chE lo hi r)])
theorem own_eq{w w':World}{base n size:Nat}{e:TypeId}{v:Value}{xs:List Value}(h:w.ownsRow base e size v n xs)(he:∀k,v.ownBlock=some k->w'.heap[k]? =w.heap[k]?):w'.ownsRow base e size v n xs:=by
 refine⟨h.1,?_⟩;rcases h.2 with h1|⟨g,cap,cur,hv,hbg,hh,hx⟩
 ·exact .inl h1
 ·exact .inr ⟨g,cap,cur,hv,hbg,(he g (by rw[hv];rfl)).trans hh,hx⟩
theorem own_blk{w:World}{base n size:Nat}{e:TypeId}{v:Value}{xs:List Value}(h:w.ownsRow base e size v n xs){k:Nat}(hk:v.ownBlock=some k):base<=k/\k<w.heap.size:=by
 rcases h.2 with⟨h1,_⟩|⟨g,cap,cur,hv,hbg,hh,hx⟩
 ·rw[h1]at hk;cases hk
 ·rw[hv]at hk;cases hk;exact⟨hbg,(Array.getElem?_eq_some_iff.1 hh).1⟩
theorem turn_by{w w':World}{row:Option Nat}(h:w.grownBy w' row):Turn (fun k=>some k=row) w w':=⟨h.os,h.tape,h.output,h.size,fun k hk hs=>h.block k hk hs⟩
theorem Fls.less{Q Q':Nat->Prop}{w0 wr:World}{B fb mb r:Nat}{lo hi:E2}{D L:List E2}{f:E2->Option Int}{K:Nat}(h:Fls Q w0 wr B fb mb r lo hi D L f K)(hq:∀k,Q' k->Q k):Fls Q' w0 wr B fb mb r lo hi D L f K:=by
 obtain⟨mm,⟨vo,c,h1,h2,h3⟩,hF⟩:=h;exact⟨mm,⟨vo,c,h1,fun k hk=>h2 k (hq k hk),h3⟩,hF⟩
def OutI(w wr:World)(fb mb k:Nat)(u v z0:E2)(n:Nat)(ao:Option Addr)(dc:Nat):Prop:=
 ∃D L f K,D.length=n/\Fls (InRow (.slice ao n dc)) w wr w.heap.size fb mb k u v D L f K/\wr.ownsRow w.heap.size 37 2 (.slice ao n dc) n (prV D)/\K<=1+6*n/\0<(f z0).getD 0/\Shut D f
def InI(Q:Nat->Prop)(w w1 wr:World)(fb mb k:Nat)(u v z0:E2)(D:List E2)(z:E2)(n j:Nat):Prop:=
 ∃L f K,Fls Q w wr w.heap.size fb mb k u v (D++[z]) L f K/\K<=1+6*n+j/\0<(f z0).getD 0/\Shut D f/\(∀ i,i<j->0<(f (addE z (unitE i))).getD 0)/\w1.heap.size<=wr.heap.size/\∀q,Q q->wr.heap[q]? =w1.heap[q]?
theorem own_pr{w:World}{B n c:Nat}{ao:Option Addr}{D:List E2}(ho:w.ownsRow B 37 2 (.slice ao n c) n (prV D))(hn:D.length=n){i:Nat}(hi:i<n):∃g,ao=some ⟨g,0,none⟩/\g<w.heap.size/\w.cell? ⟨g,i*2,none⟩=some (.int .i64 (prG D i).1)/\w.cell? ⟨g,i*2+1,none⟩=some (.int .i64 (prG D i).2):=by
 rcases ho.2 with⟨_,h1⟩|⟨g,cap,cur,hv,_,hh,_⟩
 ·omega
 ·cases hv
  have:=prV_get D i (by omega);exact⟨g,rfl,(Array.getElem?_eq_some_iff.1 hh).1,(ho.cellAt (i*2) (by omega)).trans this.1,(ho.cellAt (i*2+1) (by omega)).trans this.2⟩
theorem own_apart2{w:World}{b1 b2 n1 n2 s1 s2:Nat}{e1 e2:TypeId}{v1 v2:Value}{x1 x2:List Value}(h1:w.ownsRow b1 e1 s1 v1 n1 x1)(h2:w.ownsRow b2 e2 s2 v2 n2 x2)(hne:e1≠e2):∀q,v1.ownBlock=some q->v2.ownBlock≠some q:=fun q hq hq2=>by
 rcases h1.2 with⟨a,_⟩|⟨g,cap,cur,hv,_,hh,_⟩
 ·rw[a]at hq;cases hq
 ·rcases h2.2 with⟨a,_⟩|⟨g',cap',cur',hv',_,hh',_⟩
  ·rw[a]at hq2;cases hq2
  ·rw[hv]at hq;rw[hv']at hq2;cases hq;cases hq2
   rw[hh]at hh';cases hh';exact hne rfl
theorem sort_own{w:World}{base n c:Nat}{ao:Option Addr}{l:List Int}(h:w.ownsRow base 35 1 (.slice ao n c) n (uV l))(hl:l.length=n)(hn:n<=1000000):
  Calls Tryz.prog 69 #[.slice ao n c] w fun e w'=>e=.returned (.tuple #[])/\w'.ownsRow base 35 1 (.slice ao n c) n (uV (srt l))/\(base<=w.heap.size->Below base w w'):=by
 by_cases h0:n=0
 ·subst h0
  obtain rfl:l=[]:=List.eq_nil_of_length_eq_zero hl;refine(u64_Sort_int_nil ao c w).mono ?_;rintro e w' ⟨rfl,rfl⟩;exact⟨rfl,by rw[show srt []=[] by simp[srt]];exact h,fun _=>br⟩
 ·obtain⟨g,rfl,hg0,hg,hnc,hH⟩:=holds_own (by omega) h
  subst hl;refine(u64_slices_Sort_int g 0 c l w hH hg (by omega)).mono ?_;rintro e w' ⟨rfl,q,os,rfl⟩;have h1:=ownsRow_putRow (q:=q) (k:=l.length) (ys:=srt l) h (by rw[srt_length]) lr;rw[show (srt l).take l.length=srt l from List.take_of_length_le (by rw[srt_length];exact lr)]at h1;have hsz:(Sort.putRow encU (Sort.ahead w q) g 0 (srt l).toArray).heap.size=w.heap.size:=by simp[Sort.putRow,Sort.mapBlock,Sort.ahead]
  refine⟨rfl,own_later h1 (below_growU br lr),fun _=>?_⟩;exact below_growU (below_putRow br hg0) (by show base<=(Sort.putRow encU (Sort.ahead w q) g 0 (srt l).toArray).heap.size;omega)
theorem wsL_snoc(k:Nat)(D:List E2)(z:E2):wsL k (D++[z])=wsL k D++if okB k z=true then [((wordN k z:Nat):Int)]else []:=by
 unfold wsL;rw[List.filter_append,List.map_append];by_cases h:okB k z=true
 ·rw[if_pos h,List.filter_cons_of_pos (by simpa using h)];rfl
 ·rw[if_neg h,List.filter_cons_of_neg (by simpa using h)];rfl
theorem wsL_le(k:Nat)(D:List E2):(wsL k D).length<=D.length:=by unfold wsL;rw[List.length_map];exact List.length_filter_le _ _
theorem ofW_okF{r:Nat}{z:E2}(h:okB r z=true):ofW r z=wordN r z/\ofE r z=0:=by
 unfold ofW ofE;rw[if_pos h,if_pos h];exact⟨rfl,rfl⟩
theorem ch_ok{lo hi:E2}{r:Int}(h:chE lo hi r=0):(0<=r/\r<=12)/\worldB lo.1 lo.2=true/\worldB hi.1 hi.2=true/\lo.1<=hi.1/\lo.2<=hi.2:=by
 unfold chE at h
 split at h
 ·cases h
 ·split at h
  ·split at h
   ·cases h
   ·rename_i h1 h2 h3;exact⟨by omega,h2.1,h2.2,by omega,by omega⟩
  ·cases h
def lenOf:Value->Nat
 | .slice _ n _=>n
 |_=>0
theorem box_any(lo hi:E2)(r:Int)(w:World):Calls Tryz.prog 32 #[vE lo,vE hi,.int .i64 r] w fun e w'=>BoxP w lo hi r e w'/\Below w.heap.size w w':=by
 have hmf:∀(fn:Fn) (first cap:Array Value) (w:World),(Instr.makeFunc fn first cap).run Tryz.prog w=.ok (.func fn first cap) w:=fun _ _ _ _=>rfl
 have hmk:∀w:World,(Instr.makeMap 102 none).run Tryz.prog w=.ok (.map (some w.heap.size)) (w.alloc (.map #[] 0)):=fun _=>by kernel_rfl
 have HCH:=Hd (fun w=>check_any lo hi r w);have HBAD:Hid (chE lo hi r≠0->∀w',BoxP w lo hi r (.returned (.tuple #[.slice none 0 0,.int .i64 (chE lo hi r)])) w'):=fun h w'=>by unfold BoxP;rw[if_neg h]
 have HYES:Hid (chE lo hi r=0->∀k:Nat,r=k->∀D ao c n w',AllOf (12-k) (triE lo) (triE hi) D->D.length<=20000->n=(wsL k D).length->w'.ownsRow w.heap.size 35 1 (.slice ao n c) n (uV (srt (wsL k D)))->BoxP w lo hi r (.returned (.tuple #[.slice ao n c,.int .i64 0])) w'):=fun h k hk D ao c n w' h1 h2 h3 h4=>by
  subst hk;unfold BoxP;rw[if_pos h];exact .inl ⟨D,ao,c,n,h1,h2,rfl,h3,h4⟩
 have HMANY:Hid (chE lo hi r=0->∀k:Nat,r=k->∀(D:List E2) w',D.Nodup->D.length=20001->(∀ z∈D,TouchP (hexC (12-k) z) (triE lo) (triE hi))->BoxP w lo hi r (.returned (.tuple #[.slice none 0 0,.int .i64 7])) w'):=fun h k hk D w' h1 h2 h3=>by
  subst hk;unfold BoxP;rw[if_pos h];exact .inr ⟨D,h1,h2,h3,rfl⟩
 have HIN:=Hd (fun w=>inth_any lo hi w);have HOK:=Hd (fun h:chE lo hi r=0=>ch_ok h);obtain⟨w1,hw1⟩:∃W,(w.alloc (.cells #[.int .i64 lo.1,.int .i64 lo.2] 26)).alloc (.cells #[.int .i64 hi.1,.int .i64 hi.2] 26)=W:=⟨_,rfl⟩;have hb1:Below w.heap.size w w1:=by rw[<- hw1];exact(br.alloc lr _).alloc (by simp) _
 have hx:w1.heap[w.heap.size]? =some (.cells #[.int .i64 lo.1,.int .i64 lo.2] 26 (0,0)):=by
  rw[<- hw1,Below.heap_alloc _ _ _ (by simp)];exact heap_new _ _ _ rfl
 have hy:w1.heap[w.heap.size+1]? =some (.cells #[.int .i64 hi.1,.int .i64 hi.2] 26 (0,0)):=by rw[<- hw1];exact heap_new _ _ _ (by simp)
 have PL1:=Hd hx;have PH1:=Hd hy;have a0:w1.cell? ⟨w.heap.size,0,none⟩=some (.int .i64 lo.1):=cell_of_row w1 _ 0 _ _ _ hx;have a1:w1.cell? ⟨w.heap.size,1,none⟩=some (.int .i64 lo.2):=cell_of_row w1 _ 1 _ _ _ hx;have b0:w1.cell? ⟨w.heap.size+1,0,none⟩=some (.int .i64 hi.1):=cell_of_row w1 _ 0 _ _ _ hy;have b1:w1.cell? ⟨w.heap.size+1,1,none⟩=some (.int .i64 hi.2):=cell_of_row w1 _ 1 _ _ _ hy;have s0:=(Array.getElem?_eq_some_iff.1 hx).1;have s1:=(Array.getElem?_eq_some_iff.1 hy).1;have HW1:=Hd hw1;have HB1:=Hd hb1;clear hw1 hb1 hx hy;generalize hX:chE lo hi r=X at *;simp only[vE]at *;by_cases hX0:X=0
 ·subst hX0
  obtain⟨⟨r0,r1⟩,hwl,hwh,ho1,ho2⟩:=HOK.out rfl;obtain⟨k,rfl⟩:∃k:Nat,r=k:=⟨r.toNat,by omega⟩;have hk:k<=12:=by omega
  have HYES2:=Hd (HYES.out rfl k rfl);have HMANY2:=Hd (HMANY.out rfl k rfl);have hbx:bxOk lo hi=true:=by
   rw[worldB_iff]at hwl hwh;unfold bxOk axOk axG;simp;omega
  rw[hbx]at HIN;have HCO:=Hd (fun w=>cof_in lo.1 lo.2 hwl k hk w);have sl:Sm 3300000000 (triE lo):=by rw[worldB_iff]at hwl;unfold Sm triE;simp only;omega
  have sh:Sm 3300000000 (triE hi):=by rw[worldB_iff]at hwh;unfold Sm triE;simp only;omega
  have ox:(triE lo).1<=(triE hi).1:=by unfold triE;simp only;omega
  have oy:(triE lo).2<=(triE hi).2:=by unfold triE;simp only;omega
  have HZ0:Hid (InZ (12-k) (nearE lo.1 lo.2 k) ((triE lo).1:Rat) ((triE lo).2:Rat)):=inZ_near hk;have hT0:Sm 1073741824 (nearE lo.1 lo.2 k)/\RingSm (hexL (12-k) (nearE lo.1 lo.2 k)):=by
   have hxr:((triE lo).1:Rat)<=(triE hi).1:=by exact_mod_cast ox
   have hyr:((triE lo).2:Rat)<=(triE hi).2:=by exact_mod_cast oy
   have ht:=(touch_iff (show 12-k<=12 by omega) (nearE lo.1 lo.2 k) (triE lo) (triE hi) ox oy).2 ⟨_,_,Rat.le_refl,hxr,Rat.le_refl,hyr,HZ0.out⟩;have hc:=touch_sm (by omega) ht sl sh;have h1:=cen_sm (by omega) hc;exact⟨by unfold Sm at *;omega,ring_sm (by omega) (by unfold Sm at *;omega)⟩
  have HALL:Hid (∀ (f:E2->Option Int) (D:List E2) (K mm:Nat),Flow (ttB (12-k) (triE lo) (triE hi)) f D [] K mm->0<(f (nearE lo.1 lo.2 k)).getD 0->Shut D f->AllOf (12-k) (triE lo) (triE hi) D):=fun f D K mm h1 h2 h3=>
   all_of (by omega) ox oy HZ0.out h1 h2 h3
  have HNX:Hid (∀ z,ttB (12-k) (triE lo) (triE hi) z=true->∀j,j<6->Sm 1073741824 (addE z (unitE j))/\RingSm (hexL (12-k) (addE z (unitE j)))):=fun z hz j hj=>
   next_sm (by omega) (touch_sm (by omega) ((tt_iff _ _ _ _).1 hz) sl sh) hj
  have HNS:Hid (∀ z,ttB (12-k) (triE lo) (triE hi) z=true->Sm 1000000000 z):=fun z hz=>cen_sm (show 12-k<=12 by omega) (touch_sm (by omega) ((tt_iff _ _ _ _).1 hz) sl sh)
  have gl:Sm 10000000000 (triE lo):=by unfold Sm at *;omega
  have gh:Sm 10000000000 (triE hi):=by unfold Sm at *;omega
  clear ox oy hwl hwh sl sh HYES HMANY HBAD HOK HZ0 hbx r0 r1;generalize triE lo=tl at *;generalize triE hi=th at *;generalize nearE lo.1 lo.2 k=z0 at *;simp only[vC]at HCO
  go_enter Tryz.func32,Tryz.ntmps32
  go_upto_region 1 with(fail)
  rw[HW1.out]
  go_wp2_with fail
  refine(HCH.out _).mono ?_;rintro e w2 ⟨rfl,hb2⟩;have B2:=Hd (HB1.out.trans (hb2.mono HB1.out.size));have PL2:Hid (w2.heap[w.heap.size]? =some (.cells #[.int .i64 lo.1,.int .i64 lo.2] 26 (0,0))):=(hb2.block _ s0).trans PL1.out;have PH2:Hid (w2.heap[w.heap.size+1]? =some (.cells #[.int .i64 hi.1,.int .i64 hi.2] 26 (0,0))):=(hb2.block _ s1).trans PH1.out;clear hb2 PL1 PH1 HB1 HW1 HCH a0 a1 b0 b1 s0 s1;have a0:w2.cell? ⟨w.heap.size,0,none⟩=some (.int .i64 lo.1):=cell_of_row w2 _ 0 _ _ _ PL2.out;have a1:w2.cell? ⟨w.heap.size,1,none⟩=some (.int .i64 lo.2):=cell_of_row w2 _ 1 _ _ _ PL2.out;have b0:w2.cell? ⟨w.heap.size+1,0,none⟩=some (.int .i64 hi.1):=cell_of_row w2 _ 0 _ _ _ PH2.out;have b1:w2.cell? ⟨w.heap.size+1,1,none⟩=some (.int .i64 hi.2):=cell_of_row w2 _ 1 _ _ _ PH2.out;have s0:=(Array.getElem?_eq_some_iff.1 PL2.out).1;have s1:=(Array.getElem?_eq_some_iff.1 PH2.out).1
  go_wp2_with fail
  refine(HIN.out _).mono ?_;rintro e w3 ⟨⟨u,v,rfl,huv⟩,hb3⟩;obtain⟨rfl,rfl⟩:=huv rfl;have B3:=Hd (B2.out.trans (hb3.mono B2.out.size));have PL3:Hid (w3.heap[w.heap.size]? =some (.cells #[.int .i64 lo.1,.int .i64 lo.2] 26 (0,0))):=(hb3.block _ s0).trans PL2.out;clear hb3 PL2 PH2 B2 a0 a1 b0 b1 s0 s1 HIN huv
  go_upto_region 5 with(fail)
  have Q3:Hid (Quad (w3.alloc (.cells #[.int .i64 u.1,.int .i64 u.2,.int .i64 v.1,.int .i64 v.2] 97)) w3.heap.size u v):=heap_new _ _ _ rfl;obtain⟨q0,q1,q2,q3,-,-,-,-,q4⟩:=Q3.out.cells
  go_upto_region 6 with(fail)
  obtain⟨w5,hw5⟩:∃W,(((w3.alloc (.cells #[.int .i64 u.1,.int .i64 u.2,.int .i64 v.1,.int .i64 v.2] 97)).alloc (.map #[] 0)).alloc (.cells #[.int .i64 k,.func (.func 61) #[.agg #[.int .i64 u.1,.int .i64 u.2,.int .i64 v.1,.int .i64 v.2]] #[],.slice none 0 0,.map (some (w3.heap.size+1))] 105))=W:=⟨_,rfl⟩;have K5:Below w3.heap.size w3 w5:=by rw[<- hw5];exact((br.alloc lr _).alloc (by simp) _).alloc (by simp;omega) _
  have B5:=Hd (B3.out.trans (K5.mono B3.out.size));have hsw:=B3.out.size;have hx5:w5.heap[w3.heap.size+1+1]? =some (.cells #[.int .i64 k,.func (.func 61) #[.agg #[.int .i64 u.1,.int .i64 u.2,.int .i64 v.1,.int .i64 v.2]] #[],.slice none 0 0,.map (some (w3.heap.size+1))] 105 (0,0)):=by rw[<- hw5];exact heap_new _ _ _ (by simp)
  have F5:Hid (FloodAt w5 w.heap.size (w3.heap.size+1+1) (w3.heap.size+1) k u v none 0 [] (fun _=>none) 0):=by
   refine⟨⟨cell_of_row w5 _ 0 _ _ _ hx5,cell_of_row w5 _ 1 _ _ _ hx5,cell_of_row w5 _ 3 _ _ _ hx5⟩,⟨cell_of_row w5 _ 2 _ _ _ hx5,frozen_of_row _ _ _ _ _ hx5,⟨rfl,.inl ⟨rfl,rfl⟩⟩,fun _ _ _ e=>(by cases e),by simp⟩,?_,by omega,by omega⟩;have hm:=mapE_new (w3.alloc (.cells #[.int .i64 u.1,.int .i64 u.2,.int .i64 v.1,.int .i64 v.2] 97));rw[World.size_alloc]at hm;refine hm.heap ?_;rw[<- hw5];exact Below.heap_alloc _ _ _ (by simp)
  have PL5:Hid (w5.heap[w.heap.size]? =some (.cells #[.int .i64 lo.1,.int .i64 lo.2] 26 (0,0))):=(K5.block _ (Array.getElem?_eq_some_iff.1 PL3.out).1).trans PL3.out;have a0:w5.cell? ⟨w.heap.size,0,none⟩=some (.int .i64 lo.1):=cell_of_row w5 _ 0 _ _ _ PL5.out;have a1:w5.cell? ⟨w.heap.size,1,none⟩=some (.int .i64 lo.2):=cell_of_row w5 _ 1 _ _ _ PL5.out;have s0:=(Array.getElem?_eq_some_iff.1 PL5.out).1;rw[hw5];clear hw5 K5 hsw hx5 B3 PL3 Q3 q0 q1 q2 q3 q4 hmf hmk;generalize w3.heap.size+1+1=fb at *;generalize w3.heap.size+1=mb at*
  go_wp2_with fail
  refine(HCO.out _).mono ?_;rintro e w6 ⟨rfl,hb6⟩;have F6:Hid (FloodAt w6 w.heap.size fb mb k u v none 0 [] (fun _=>none) 0):=F5.out.below hb6;have B6:=Hd (B5.out.trans (hb6.mono B5.out.size));clear F5 B5 PL5 a0 a1 s0 hb6 HCO
  go_upto_region 7 with(fail)
  have K7:Below w6.heap.size w6 (w6.alloc (.cells #[.int .i64 k,.int .i64 z0.1,.int .i64 z0.2] 39)):=br.alloc lr _;have F7:Hid (Fls (fun _=>False) w (w6.alloc (.cells #[.int .i64 k,.int .i64 z0.1,.int .i64 z0.2] 39)) w.heap.size fb mb k u v [] [] (fun _=>none) 0):=
   ⟨0,⟨none,0,F6.out.below K7,fun _ h=>h.elim,B6.out.trans (K7.mono B6.out.size)⟩,flow_new _⟩
  have hx7:(w6.alloc (.cells #[.int .i64 k,.int .i64 z0.1,.int .i64 z0.2] 39)).heap[w6.heap.size]? =some (.cells #[.int .i64 k,.int .i64 z0.1,.int .i64 z0.2] 39 (0,0)):=heap_new _ _ _ rfl;generalize w6.alloc (.cells #[.int .i64 k,.int .i64 z0.1,.int .i64 z0.2] 39)=w7 at *;have a1:w7.cell? ⟨w6.heap.size,1,none⟩=some (.int .i64 z0.1):=cell_of_row w7 _ 1 _ _ _ hx7;have a2:w7.cell? ⟨w6.heap.size,2,none⟩=some (.int .i64 z0.2):=cell_of_row w7 _ 2 _ _ _ hx7;have s7:=(Array.getElem?_eq_some_iff.1 hx7).1;have HLK:=Hd (look_st F7.out z0 hT0.1 hT0.2 hk gl gh (by decide));clear hx7 K7 F7 F6 B6;simp only[vE]at HLK
  go_wp2_with fail
  refine HLK.out.mono ?_;rintro e w8 ⟨rfl,hl8⟩;have HL8:=Hd hl8;clear hl8 a1 a2 s7 HLK
  go_upto_region 9 with(fail)
  have HO8:Hid (OutI w w8 fb mb k u v z0 0 none 0):=by
   obtain⟨L',h1,-,-⟩:=HL8.out;refine⟨[],L',_,_,rfl,h1.less (fun q hq=>by cases hq),⟨rfl,.inl ⟨rfl,rfl⟩⟩,by omega,?_,fun y hy=>by cases hy⟩;exact(seen_upd _ (fun y=>by simp) z0 z0).2 (.inl rfl)
  clear HL8
  go_loopw [14] (fun dv wr=>∃(n:Nat) (ao:Option Addr) (dc:Nat),n<=20000/\dv=.slice ao n dc/\Hid (OutI w wr fb mb k u v z0 n ao dc)) (fun dv _=>20001-lenOf dv)
  case atStart=>exact⟨0,none,0,by omega,rfl,HO8.out⟩
  case round=>
   obtain⟨n,ao,dc,hn,rfl,HI⟩:=hrel;obtain⟨D,L,f,K,hDn,hF,hO,hK,hs0,hsh⟩:=HI.out;clear HI HO8;obtain⟨hfb,vo,c,c2⟩:=hF.row;have HF:=Hd hF;have HO:=Hd hO;have HD:=Hd (And.intro hDn (And.intro hs0 hsh));clear hF hO hDn hs0 hsh;obtain⟨l,hl⟩:∃l,L.length=l:=⟨_,rfl⟩;rw[hl]at c2;have HLN:=Hd (flen_any vo l c wr);by_cases hl0:l=0
   ·subst hl0
    obtain rfl:L=[]:=List.eq_nil_of_length_eq_zero hl;have HA:Hid (AllOf (12-k) u v D):=by
     obtain⟨mm,h1,h2⟩:=HF.out;exact HALL.out f D K mm h2 HD.out.2.1 HD.out.2.2
    clear hl
    go_wp2_with fail
    refine HLN.out.mono ?_;rintro e w9 ⟨rfl,rfl⟩;have HBW:Hid (Below w.heap.size w wr):=HF.out.below;have HDn:Hid (D.length=n):=HD.out.1;clear HF HD HALL HNX HNS HMANY2 c2 hfb HLN hK
    go_upto_region 22 with(fail)
    have HTN:Hid (D.take n=D):=List.take_of_length_le (by rw[HDn.out];exact lr);have HTK:Hid (∀ i,i<n->D.take (i+1)=D.take i++[prG D i]):=fun i hi=>take_pr D (by rw[HDn.out];exact hi)
    go_loopw [20,95] (fun ov iv wi=>∃(i on:Nat) (oo:Option Addr) (oc:Nat),i<=n/\on<=i/\ov=.slice oo on oc/\iv=.int .i64 i/\Hid (wi.ownsRow w.heap.size 35 1 (.slice oo on oc) on (uV (wsL k (D.take i)))/\wi.ownsRow w.heap.size 37 2 (.slice ao n dc) n (prV D)/\Below w.heap.size w wi/\(wsL k (D.take i)).length=on)) (fun _ iv _=>n-(intOf iv).toNat)
    case atStart=>exact⟨0,0,none,0,by omega,by omega,rfl,rfl,⟨rfl,.inl ⟨rfl,rfl⟩⟩,HO.out,HBW.out,rfl⟩
    case round=>
     obtain⟨i,on,oo,oc,hil,hon,rfl,rfl,HW⟩:=hrel;obtain⟨hw1,hw2,hw3,hw4⟩:=HW.out;by_cases hlt:i<n
     ·obtain⟨g,rfl,hg,c0,c1⟩:=own_pr hw2 HDn.out hlt
      have htk:=HTK.out i hlt;generalize prG D i=y at *;have HTI:=Hd htk;have hi0:(0:Int)<=(i:Int):=by omega
      have hiN:(i:Int)<(n:Int):=by omega
      clear htk HW
      go_upto_region 24 with(fail)
      have K1:Below wr.heap.size wr (wr.alloc (.cells #[.int .i64 y.1,.int .i64 y.2] 37)):=br.alloc lr _;have hx1:(wr.alloc (.cells #[.int .i64 y.1,.int .i64 y.2] 37)).heap[wr.heap.size]? =some (.cells #[.int .i64 y.1,.int .i64 y.2] 37 (0,0)):=heap_new _ _ _ rfl;have O1:=Hd (own_later hw1 K1);have O2:=Hd (own_later hw2 K1);have B1:=Hd (hw3.trans (K1.mono hw3.size));generalize wr.alloc (.cells #[.int .i64 y.1,.int .i64 y.2] 37)=wa at *;have t0:wa.cell? ⟨wr.heap.size,0,none⟩=some (.int .i64 y.1):=cell_of_row wa _ 0 _ _ _ hx1;have t1:wa.cell? ⟨wr.heap.size,1,none⟩=some (.int .i64 y.2):=cell_of_row wa _ 1 _ _ _ hx1;have hza:wr.heap.size<wa.heap.size:=(Array.getElem?_eq_some_iff.1 hx1).1;have HOF:=Hd (fun w=>of_any k y w);simp only[vC]at HOF;have HW4:=Hd hw4;clear K1 hx1 hw1 hw2 hw3 hw4 c0 c1 hg;by_cases hok:okB k y=true
      ·rw[(ofW_okF hok).1,(ofW_okF hok).2]at HOF
       have HWS:Hid (wsL k (D.take (i+1))=wsL k (D.take i)++[((wordN k y:Nat):Int)]):=by show _=_;rw[HTI.out,wsL_snoc,if_pos hok]
       clear hok
       go_wp2_with fail
       refine(HOF.out _).mono ?_;rintro e wb ⟨rfl,hb⟩;have hO1:=own_later O1.out hb;have O2b:=Hd (own_later O2.out hb);have B2:=Hd (B1.out.trans (hb.mono B1.out.size));have hBs:=B2.out.size;clear hb O1 O2 B1 t0 t1 hza HOF;obtain⟨i1,hi1,hy0,hy1,hy2⟩:=info_parts info_u;generalize(wordN k y:Nat)=W at*
       go_upto_region 27 with(at_builtin;refine wpList_append_own_at _ rfl (.tmp 108) (.tmp 110) 22 rfl w.heap.size 35 i1 (.int .u64 0) 1 8 Tryz.underlying22 hi1 hy0 hy1 hy2 rfl (by decide) _ on (uV (wsL k (D.take i))) rfl (hO1.alloc _) ⟨wb.heap.size,0,none⟩ 1 1 [.int .u64 W] rfl rfl (cells_new _ _ _ _ rfl) (by simp[Value.oneCell']) (by unfold maxLen;omega) (by omega) (by simp;omega) ?_;intro v3 w3' hown3 hg3 hnil3 hat3;clear hnil3 hat3;have HO3:=Hd hown3;have HG3:=Hd hg3;clear hown3 hg3)
       obtain⟨oo',oc',rfl,_⟩:=own_form HO3.out;have HE:Hid (w3'.ownsRow w.heap.size 35 1 (.slice oo' (on+1) oc') (on+1) (uV (wsL k (D.take (i+1))))/\w3'.ownsRow w.heap.size 37 2 (.slice (some ⟨g,0,none⟩) n dc) n (prV D)/\Below w.heap.size w w3'/\(wsL k (D.take (i+1))).length=on+1):=by
        have kA:Below wb.heap.size wb (wb.alloc (.cells #[.int .u64 W] 35)):=br.alloc lr _;have o2:=own_later O2b.out kA;refine⟨by rw[HWS.out];unfold uV;rw[List.map_append];exact HO3.out,own_eq o2 fun q hq=>HG3.out.block q (own_blk o2 hq).2 fun e=>own_apart2 o2 (hO1.alloc _) (by decide) q hq e.symm,?_,by rw[HWS.out,List.length_append,HW4.out];rfl⟩;exact below_append (B2.out.alloc hBs _) (hO1.alloc _) (by simp;omega) HG3.out
       clear HO3 HG3 O2b B2 hO1 HWS HW4 hBs hi1 hy0 hy1 hy2;go_wp2
       go_roundw
       case rel=>exact⟨i+1,on+1,oo',oc',by omega,by omega,rfl,by first|rfl|go_num,HE.out⟩
       case measure=>simp[intOf];omega
      ·have hof:ofE k y=2:=by unfold ofE;rw[if_neg hok]
       rw[hof]at HOF;have HWS:Hid (wsL k (D.take (i+1))=wsL k (D.take i)):=by show _=_;rw[HTI.out,wsL_snoc,if_neg hok,List.append_nil]
       clear hok hof
       go_wp2_with fail
       refine(HOF.out _).mono ?_;rintro e wb ⟨rfl,hb⟩;have HE:Hid (wb.ownsRow w.heap.size 35 1 (.slice oo on oc) on (uV (wsL k (D.take (i+1))))/\wb.ownsRow w.heap.size 37 2 (.slice (some ⟨g,0,none⟩) n dc) n (prV D)/\Below w.heap.size w wb/\(wsL k (D.take (i+1))).length=on):=by
        rw[HWS.out];exact⟨own_later O1.out hb,own_later O2.out hb,B1.out.trans (hb.mono B1.out.size),HW4.out⟩
       clear hb O1 O2 B1 t0 t1 hza HOF HWS HW4;go_wp2
       go_roundw
       case rel=>exact⟨i+1,on,oo,oc,by omega,by omega,rfl,by first|rfl|go_num,HE.out⟩
       case measure=>simp[intOf];omega
     ·have hin:i=n:=by omega
      rw[hin,HTN.out]at hw1 hw4;have HS:=Hd (sort_own hw1 hw4 (by omega));have HB:=Hd hw3;have HY:Hid (∀ w',w'.ownsRow w.heap.size 35 1 (.slice oo on oc) on (uV (srt (wsL k D)))->BoxP w lo hi k (.returned (.tuple #[.slice oo on oc,.int .i64 0])) w'):=fun w' h=>HYES2.out D oo oc on w' HA.out (by rw[HDn.out];exact hn) hw4.symm h
      clear hw1 hw2 hw4 HW hin HTN HTK HYES2 hw3
      go_wp2_with fail
      refine HS.out.mono ?_;rintro e w9 ⟨rfl,h1,h2⟩;have HE:=Hd (And.intro (HY.out w9 h1) (HB.out.trans (h2 HB.out.size)));clear h1 h2;go_wp2;go_ret2;exact HE.out
   ·obtain⟨l',rfl⟩:∃l',l=l'+1:=⟨l-1,by omega⟩
    have hta:∀(a b:Int) (w:World),(Instr.typeAssert (.iface 37 (.agg #[.int .i64 a,.int .i64 b])) 20 37 true).run Tryz.prog w=.ok (.tuple #[.agg #[.int .i64 a,.int .i64 b],.bool true]) w:=fun _ _ _=>by kernel_rfl
    have HPO:=Hd (pop_st HF.out hl);unfold ifcE at HPO;generalize prG L 0=z at HPO;clear hl HALL HYES2
    go_wp2_with fail
    refine HLN.out.mono ?_;rintro e w9 ⟨rfl,rfl⟩;clear HLN
    go_wp2_with fail
    refine HPO.out.mono ?_;rintro e w10 ⟨rfl,hp⟩;have HP:=Hd hp;clear hp HPO c2 hfb
    go_upto_region 11 with(fail)
    have K11:Below w10.heap.size w10 (w10.alloc (.cells #[.int .i64 z.1,.int .i64 z.2] 37)):=br.alloc lr _;have hx11:(w10.alloc (.cells #[.int .i64 z.1,.int .i64 z.2] 37)).heap[w10.heap.size]? =some (.cells #[.int .i64 z.1,.int .i64 z.2] 37 (0,0)):=heap_new _ _ _ rfl;have HZ:Hid (ttB (12-k) u v z=true):=by
     obtain⟨L',h1,h2,-⟩:=HP.out;exact h2
    have H11:Hid (∃ L',Fls (fun q=>InRow (.slice ao n dc) q∨q=w10.heap.size) w (w10.alloc (.cells #[.int .i64 z.1,.int .i64 z.2] 37)) w.heap.size fb mb k u v (D++[z]) L' f K):=by
     obtain⟨L',h1,h2,h3,h4⟩:=HP.out;refine⟨L',h1.beside (Turn.of_below (S:=fun _=>False) K11) (fun _ h=>h.elim) (fun _ h=>h.elim) fun q hq=>?_⟩;rw[World.size_alloc];rcases hq with e|e
     ·have:=(own_blk HO.out e).2
      exact⟨by omega,.inl e⟩
     ·exact⟨by omega,.inr (by omega)⟩
    have hO11:(w10.alloc (.cells #[.int .i64 z.1,.int .i64 z.2] 37)).ownsRow w.heap.size 37 2 (.slice ao n dc) n (prV D):=by
     obtain⟨L',h1,h2,h3,h4⟩:=HP.out;exact own_later (own_eq HO.out fun q hq=>h4 q hq) K11
    have hB11:w.heap.size<=(w10.alloc (.cells #[.int .i64 z.1,.int .i64 z.2] 37)).heap.size:=by
     obtain⟨L',h1,-⟩:=HP.out;have:=h1.below.size;rw[World.size_alloc];omega
    have HNE:Hid (∀ q,InRow (.slice ao n dc) q->q≠w10.heap.size):=fun q e=>by
     obtain⟨L',h1,h2,h3,h4⟩:=HP.out;have:=(own_blk HO.out e).2;omega
    generalize w10.alloc (.cells #[.int .i64 z.1,.int .i64 z.2] 37)=w11 at *;generalize w10.heap.size=zb at *;have z0':w11.cell? ⟨zb,0,none⟩=some (.int .i64 z.1):=cell_of_row w11 _ 0 _ _ _ hx11;have z1':w11.cell? ⟨zb,1,none⟩=some (.int .i64 z.2):=cell_of_row w11 _ 1 _ _ _ hx11;have hzb:zb<w11.heap.size:=(Array.getElem?_eq_some_iff.1 hx11).1;have HX11:=Hd hx11;clear hx11 K11 HP HO HF;obtain⟨i0,hi,hz0,hz1,hz2⟩:=info_parts info_eE
    go_upto_region 12 with(at_builtin;refine wpList_append_own_at _ rfl (.tmp 72) (.tmp 74) 86 rfl w.heap.size 37 i0 (.agg #[.int .i64 0,.int .i64 0]) 2 16 Tryz.underlying86 hi hz0 hz1 hz2 rfl (by decide) _ n (prV D) rfl (hO11.alloc _) ⟨w11.heap.size,0,none⟩ 1 1 [.int .i64 z.1,.int .i64 z.2] rfl rfl (cells_new _ _ _ _ rfl) (by simp[Value.oneCell']) (by unfold maxLen;omega) (by omega) (by simp;omega) ?_;intro v12 w12 hown12 hg12 hnil12 hat12;clear hnil12;have HO12:=Hd hown12;have HG12:=Hd hg12;have HT12:=Hd hat12;clear hown12 hg12 hat12)
    obtain⟨ao',c',rfl,_⟩:=own_form HO12.out;have hA:Below w11.heap.size w11 (w11.alloc (.cells #[.int .i64 z.1,.int .i64 z.2] 37)):=br.alloc lr _;have HOA:Hid (w12.ownsRow w.heap.size 37 2 (.slice ao' (n+1) c') (n+1) (prV (D++[z]))):=by show World.ownsRow _ _ _ _ _ _ _;rw[prV_snoc];exact HO12.out
    have HFA:Hid (∃ L',Fls (fun q=>InRow (.slice ao' (n+1) c') q∨q=zb) w w12 w.heap.size fb mb k u v (D++[z]) L' f K):=by
     obtain⟨L',h1⟩:=H11.out;refine⟨L',(h1.later hA).beside (turn_by HG12.out) (fun q e _=>.inl e.symm) (fun q e=>(own_blk hO11 e.symm).1) fun q hq=>?_⟩;rcases hq with e|e
     ·refine⟨(own_blk HO12.out e).2,?_⟩
      rcases HT12.out with t|t
      ·exact .inl (.inl (t.symm.trans e))
      ·have:some q=some _:=e.symm.trans t
       cases this;exact .inr lr
     ·have:=HG12.out.size
      have h2:=hA.size;exact⟨by omega,.inl (.inr e)⟩
    have HXA:Hid (w12.heap[zb]? =some (.cells #[.int .i64 z.1,.int .i64 z.2] 37 (0,0))):=by
     refine(HG12.out.block zb (by have:=hA.size;omega) fun e=>?_).trans ((hA.block zb hzb).trans HX11.out);exact HNE.out zb e.symm rfl
    clear HO12 HG12 HT12 hA H11 HX11 hO11 hB11 hzb z0' z1' HNE hi hz0 hz1 hz2;by_cases hm:n=20000
    ·subst hm
     have HE:Hid (BoxP w lo hi k (.returned (.tuple #[.slice none 0 0,.int .i64 7])) w12/\Below w.heap.size w w12):=by
      obtain⟨L',h1⟩:=HFA.out;refine⟨?_,h1.below⟩;obtain⟨mm,-,h2,h3,-⟩:=h1;exact HMANY2.out (D++[z]) w12 (List.nodup_append.1 h2).1 (by rw[List.length_append,HD.out.1];rfl) fun y hy=>(tt_iff _ _ _ _).1 ((h3 y).1 (List.mem_append_left _ hy)).1
     clear HMANY2 HFA HOA HXA HD HNX HNS HZ;go_wp2;go_ret2;exact HE.out
    ·have HB0:Hid (InI (fun q=>InRow (.slice ao' (n+1) c') q∨q=zb) w w12 w12 fb mb k u v z0 D z n 0):=by
      obtain⟨L',h1⟩:=HFA.out;exact⟨L',f,K,h1,by omega,HD.out.2.1,HD.out.2.2,fun i h=>by omega,lr,fun _ _=>rfl⟩
     have HDn:Hid (D.length=n):=HD.out.1;have hn2:n+1<=20000:=by omega
     clear HMANY2 HFA HD hK hm
     go_upto_region 15 with(fail)
     go_loopw [79] (fun jv wi=>∃j:Nat,j<=6/\jv=.int .i64 j/\Hid (InI (fun q=>InRow (.slice ao' (n+1) c') q∨q=zb) w w12 wi fb mb k u v z0 D z n j)) (fun jv _=>6-(intOf jv).toNat)
     case atStart=>exact⟨0,by omega,rfl,HB0.out⟩
     case round=>
      obtain⟨j,hj,rfl,HJ⟩:=hrel;obtain⟨L2,f2,K2,hF2,hK2,hs2,hsh2,hnb2,hsz2,hkeep2⟩:=HJ.out;clear HJ HB0;have HF2:=Hd hF2;have HP2:=Hd (And.intro hs2 (And.intro hsh2 hnb2));have HK2:=Hd hkeep2;have hx2:wr.heap[zb]? =some (.cells #[.int .i64 z.1,.int .i64 z.2] 37 (0,0)):=(hkeep2 zb (.inr rfl)).trans HXA.out;clear hF2 hs2 hsh2 hnb2 hkeep2;by_cases hlt:j<6
      ·obtain⟨m1,m2⟩:=HNX.out z HZ.out j hlt
       have m3:=HNS.out z HZ.out;have HUN:=Hd (fun w=>unit_in j hlt w);have m4:Sm 1 (unitE j):=by
        rcases(show j=0∨j=1∨j=2∨j=3∨j=4∨j=5 by omega)with rfl|rfl|rfl|rfl|rfl|rfl <;> simp[Sm,unitE]
       have HAD:=Hd (fun w=>add_in z (unitE j) (by unfold Sm at *;omega) (by unfold Sm at *;omega) w);obtain⟨nn,hnn⟩:∃nn,addE z (unitE j)=nn:=⟨_,rfl⟩;rw[hnn]at m1 m2 HAD;have HNN:=Hd hnn;have hzw:zb<wr.heap.size:=(Array.getElem?_eq_some_iff.1 hx2).1;have HTW:Hid (∀ wx,Below wr.heap.size wr wx->Two wx zb (.int .i64 z.1) (.int .i64 z.2)):=fun wx hx=>Two.of_row (t:=37) ((hx.block zb hzw).trans hx2)
       clear hnn hx2;generalize unitE j=uu at HUN HAD;simp only[vE]at HUN HAD
       go_upto_region 17 with(fail)
       have q80:decide ((j:Int)<6)=true:=by simp;omega
       rw[q80];clear q80;refine wp_region_ind ([.val (.agg #[.int .i64 z.1,.int .i64 z.2]),.val (.int .i64 j),.val (.agg #[.int .i64 uu.1,.int .i64 uu.2]),.val (.tuple #[.agg #[.int .i64 nn.1,.int .i64 nn.2],.bool true]),.val (.tuple #[.agg #[.int .i64 nn.1,.int .i64 nn.2],.bool true]),.val (.agg #[.int .i64 nn.1,.int .i64 nn.2]),.val (.bool true),.prop (pNew wr.heap.size #[.int .i64 0,.int .i64 0] 37),.of 7 (pNew wr.heap.size #[.int .i64 nn.1,.int .i64 nn.2] 37),.val (.bool true)]:List Want3) [8] (by kernel_rfl) (by kernel_rfl) (by kernel_rfl) (by kernel_rfl) ?_;refine ind_cons (fun wx hg hd=>?_) (fun v0=>?_)
       ·have hx:=hxo wr hg
        clear hd hg;obtain⟨k1,k2⟩:=HTW.out _ hx;have k3:=hx.size;go_wp2;exact⟨_,rfl,br,rfl⟩
       (try simp only[pq])
       refine ind_cons (fun wx hg hd=>?_) (fun v1=>?_)
       ·have hx:=hxo wr hg
        clear hd hg;go_wp2;exact⟨_,rfl,br,rfl⟩
       (try simp only[pq])
       refine ind_cons (fun wx hg hd=>?_) (fun v2=>?_)
       ·have hx:=hxo wr hg
        (try(have ee:v1=(.int .i64 j:Value):=hd 1 (by simp) (by decide);subst ee))
        clear hd hg
        go_wp2_with fail
        refine(HUN.out _).mono ?_;rintro e w' ⟨rfl,hb⟩;go_wp2;exact⟨_,rfl,hb,rfl⟩
       (try simp only[pq])
       refine ind_cons (fun wx hg hd=>?_) (fun v3=>?_)
       ·have hx:=hxo wr hg
        (try(have ee:v0=(.agg #[.int .i64 z.1,.int .i64 z.2]:Value):=hd 0 (by simp) (by decide);subst ee))
        (try(have ee:v2=(.agg #[.int .i64 uu.1,.int .i64 uu.2]:Value):=hd 2 (by simp) (by decide);subst ee))
        clear hd hg
        go_wp2_with fail
        refine(HAD.out _).mono ?_;rintro e w' ⟨rfl,hb⟩;go_wp2;exact⟨_,rfl,hb,rfl⟩
       (try simp only[pq])
       refine ind_cons (fun wx hg hd=>?_) (fun v4=>?_)
       ·have hx:=hxo wr hg
        (try(have ee:v3=(.tuple #[.agg #[.int .i64 nn.1,.int .i64 nn.2],.bool true]:Value):=hd 3 (by simp) (by decide);subst ee))
        clear hd hg;go_wp2;exact⟨_,rfl,br,rfl⟩
       (try simp only[pq])
       refine ind_cons (fun wx hg hd=>?_) (fun v5=>?_)
       ·have hx:=hxo wr hg
        (try(have ee:v4=(.tuple #[.agg #[.int .i64 nn.1,.int .i64 nn.2],.bool true]:Value):=hd 4 (by simp) (by decide);subst ee))
        clear hd hg;go_wp2;exact⟨_,rfl,br,rfl⟩
       (try simp only[pq])
       refine ind_cons (fun wx hg hd=>?_) (fun v6=>?_)
       ·have hx:=hxo wr hg
        (try(have ee:v4=(.tuple #[.agg #[.int .i64 nn.1,.int .i64 nn.2],.bool true]:Value):=hd 4 (by simp) (by decide);subst ee))
        clear hd hg;go_wp2;exact⟨_,rfl,br,rfl⟩
       (try simp only[pq])
       refine ind_cons (fun wx hg hd=>?_) (fun v7=>?_)
       ·have hx:=hxo wr hg
        clear hd hg;go_wp2;exact⟨_,rfl,br.alloc lr _,_,rfl,hx.size,by simp,heap_new _ _ _ rfl⟩
       (try simp only[pq])
       refine ind_cons (fun wx hg hd=>?_) (fun v8=>?_)
       ·have hx:=hxo wr hg
        (try(have ee:v5=(.agg #[.int .i64 nn.1,.int .i64 nn.2]:Value):=hd 5 (by simp) (by decide);subst ee))
        have hp7:(pNew wr.heap.size #[.int .i64 0,.int .i64 0] 37:SP).1 v7 wx:=hd 7 (by simp) (by decide);clear hd;obtain⟨g,rfl,hg1,hg2,hg3⟩:=hp7;have hP:Two2 wx g (.int .i64 0) (.int .i64 0):=Two2.of_row (t:=37) hg3;obtain⟨⟨y0,y1⟩,y2,y3⟩:=hP;go_wp2;exact⟨undef,rfl,((Below.refl _ wx).setCell (p:=⟨g,0,none⟩) hg1 (.int .i64 nn.1)).setCell (p:=⟨g,1,none⟩) hg1 (.int .i64 nn.2),fun _=>⟨g,rfl,hg1,(by simpa using hg2),put_two hg3 (.int .i64 nn.1) (.int .i64 nn.2)⟩⟩
       (try simp only[pq])
       refine ind_cons (fun wx hg hd=>?_) (fun v9=>?_)
       ·have hx:=hxo wr hg
        (try(have ee:v6=(.bool true:Value):=hd 6 (by simp) (by decide);subst ee))
        clear hd hg;go_wp2;exact⟨_,rfl,br,rfl⟩
       (try simp only[pq])
       refine ind_done (fun wx hg hd=>?_);have hx:=hxo wr hg
       (have ee:v0=(.agg #[.int .i64 z.1,.int .i64 z.2]:Value):=hd 0 (by simp) (by kernel_rfl);subst ee)
       (have ee:v1=(.int .i64 j:Value):=hd 1 (by simp) (by kernel_rfl);subst ee)
       (have ee:v2=(.agg #[.int .i64 uu.1,.int .i64 uu.2]:Value):=hd 2 (by simp) (by kernel_rfl);subst ee)
       (have ee:v3=(.tuple #[.agg #[.int .i64 nn.1,.int .i64 nn.2],.bool true]:Value):=hd 3 (by simp) (by kernel_rfl);subst ee)
       (have ee:v4=(.tuple #[.agg #[.int .i64 nn.1,.int .i64 nn.2],.bool true]:Value):=hd 4 (by simp) (by kernel_rfl);subst ee)
       (have ee:v5=(.agg #[.int .i64 nn.1,.int .i64 nn.2]:Value):=hd 5 (by simp) (by kernel_rfl);subst ee)
       (have ee:v6=(.bool true:Value):=hd 6 (by simp) (by kernel_rfl);subst ee)
       have hp8:(pNew wr.heap.size #[.int .i64 nn.1,.int .i64 nn.2] 37:SP).1 v7 wx:=hd 8 (by simp) (by kernel_rfl) (by decide)
       (have ee:v9=(.bool true:Value):=hd 9 (by simp) (by kernel_rfl);subst ee)
       clear hd hg
       (try go_simp)
       obtain⟨g,rfl,hg1,hg2,hg3⟩:=hp8;obtain⟨y0,y1⟩:Two wx g (.int .i64 nn.1) (.int .i64 nn.2):=Two.of_row (t:=37) hg3;have HLK:=Hd (look_st (HF2.out.later hx) nn m1 m2 hk gl gh (by omega));have HXX:=Hd hx;clear hx HTW HUN HAD hg3;simp only[vE]at HLK
       go_wp2_with fail
       refine HLK.out.mono ?_;rintro e w9 ⟨rfl,hl9⟩;have HE:Hid (InI (fun q=>InRow (.slice ao' (n+1) c') q∨q=zb) w w12 w9 fb mb k u v z0 D z n (j+1)):=by
        obtain⟨L',h1,h2,h3⟩:=hl9;have hnn:=HF2.out.nonneg;obtain⟨p1,p2,p3⟩:=HP2.out;refine⟨L',_,_,h1,by omega,(seen_upd _ hnn nn z0).2 (.inr p1),shut_upd hnn nn p2,fun i hi=>(seen_upd _ hnn nn _).2 ?_,by have:=HXX.out.size;omega,fun q hq=>?_⟩
        ·by_cases e:i=j
         ·subst e;exact .inl HNN.out
         ·exact .inr (p3 i (by omega))
        ·obtain⟨mm,⟨vo,c,_,g2,_⟩,_⟩:=HF2.out
         exact(h3 q hq).trans ((HXX.out.block q (g2 q hq).1).trans (HK2.out q hq))
       clear hl9 HLK HF2 HP2 HK2 HXX HNN m1 m2 m3 m4 y0 y1;go_wp2
       go_roundw
       case rel=>exact⟨j+1,by omega,by first|rfl|go_num,HE.out⟩
       case measure=>simp[intOf];omega
      ·have HE:Hid (OutI w wr fb mb k u v z0 (n+1) ao' c'):=by
        obtain⟨p1,p2,p3⟩:=HP2.out;refine⟨D++[z],L2,f2,K2,by rw[List.length_append,HDn.out];rfl,HF2.out.less fun q hq=>.inl hq,own_eq HOA.out fun q hq=>HK2.out q (.inl hq),by omega,p1,fun y hy i hi=>?_⟩;rcases List.mem_append.1 hy with hy|hy
        ·exact p2 y hy i hi
        ·rw[List.mem_singleton.1 hy];exact p3 i (by omega)
       clear HF2 HP2 HK2 hx2 HOA HXA;go_wp2
       go_roundw
       case rel=>exact⟨n+1,ao',c',hn2,rfl,HE.out⟩
       case measure=>simp[lenOf];omega
 ·have hX1:(X != 0)=true:=by simpa using hX0
  go_enter Tryz.func32,Tryz.ntmps32
  go_upto_region 1 with(fail)
  rw[HW1.out]
  go_wp2_with fail
  refine(HCH.out _).mono ?_;rintro e w2 ⟨rfl,hb2⟩;have B2:=Hd (HB1.out.trans (hb2.mono HB1.out.size));clear hb2;go_wp2;go_ret2;exact⟨HBAD.out hX0 _,B2.out⟩
end
section
open Go.RowKit Go.Lib Wd Cv
def inB(lo hi p:E2):Bool:= !(decide (p.1<lo.1)||decide (hi.1<p.1)||decide (p.2<lo.2)||decide (hi.2<p.2))
theorem inB_iff(lo hi p:E2):inB lo hi p=true↔lo.1<=p.1/\p.1<=hi.1/\lo.2<=p.2/\p.2<=hi.2:=by
 unfold inB;simp;omega
def cenB(r:Nat)(lo hi:E2)(x:Int):Bool:=inB lo hi (atE (12-r) (zW x.toNat))
theorem ask_any(r:Nat)(lo hi:E2){z:E2}(hz:okB r z=true)(b0 b1 b2:Nat)(w:World)(h0:w.cell? ⟨b0,0,none⟩=some (.int .i64 r))(h1:w.heap[b1]? =some (.cells #[.int .i64 lo.1,.int .i64 lo.2] 26 (0,0)))(h2:w.heap[b2]? =some (.cells #[.int .i64 hi.1,.int .i64 hi.2] 26 (0,0)))(hb0:b0<w.heap.size):
  Calls Tryz.prog 33 (#[.int .u64 (wordN r z:Nat)]++#[.pointer (some ⟨b0,0,none⟩),.pointer (some ⟨b1,0,none⟩),.pointer (some ⟨b2,0,none⟩)]) w fun e w'=>e=.returned (.bool (!cenB r lo hi (wordN r z:Nat)))/\Below w.heap.size w w':=by
 obtain⟨v1,v2,v3⟩:=word_cell hz;have hr:=(okB_parts hz).1;have hlt:=(wordN_lt hz).1;have HC:=Hd (cell_any (wordN r z) (by omega));have e1:cvR (wordN r z)=r:=by unfold cvR;rw[if_pos v1,v2]
 have e2:cvZ (wordN r z)=z:=by unfold cvZ;rw[if_pos v1,v3]
 rw[e1,e2]at HC;have hsm:Sm 1073741824 z:=by
  have:=(shapeB_iff r z).1 ((okB_iff r z).1 hz).1;unfold Sm;omega
 have HCE:=Hd (fun w=>centre_in z hsm r hr w);have HF:Hid ((!cenB r lo hi (wordN r z:Nat))=(decide ((atE (12-r) z).1<lo.1)||decide (hi.1<(atE (12-r) z).1)||decide ((atE (12-r) z).2<lo.2)||decide (hi.2<(atE (12-r) z).2))):=by
  show _=_;unfold cenB inB;rw[Int.toNat_natCast,v3,Bool.not_not]
 generalize(!cenB r lo hi (wordN r z:Nat))=res at *;generalize wordN r z=wd at *;generalize atE (12-r) z=p at *;obtain⟨x,y⟩:=p;obtain⟨lx,ly⟩:=lo;obtain⟨hx,hy⟩:=hi;have HB0:Hid (∀ W,Below w.heap.size w W->(W.cell? ⟨b0,0,none⟩=some (.int .i64 r))/\W.heap[b1]? =some (.cells #[.int .i64 lx,.int .i64 ly] 26 (0,0))/\W.heap[b2]? =some (.cells #[.int .i64 hx,.int .i64 hy] 26 (0,0))):=fun W hW=>
  ⟨(hW.cell (p:=⟨b0,0,none⟩) hb0).trans h0,(hW.block b1 (Array.getElem?_eq_some_iff.1 h1).1).trans h1,(hW.block b2 (Array.getElem?_eq_some_iff.1 h2).1).trans h2⟩
 simp only at HF;clear h0 h1 h2 hb0 v1 v2 v3 e1 e2 hlt hz hsm hr;show Calls Tryz.prog 33 #[.int .u64 wd,.pointer (some ⟨b0,0,none⟩),.pointer (some ⟨b1,0,none⟩),.pointer (some ⟨b2,0,none⟩)] w _
 go_enter Tryz.func33,Tryz.ntmps33
 go_wp2_with fail
 refine(HC.out _).mono ?_;rintro e w1 ⟨rfl,hb1⟩;have HB1:=Hd hb1;clear hb1 HC;simp only[vC,vE]at*
 go_upto_region 2 with(fail)
 have K1:Below w.heap.size w (w1.alloc (.cells #[.int .i64 r,.int .i64 z.1,.int .i64 z.2] 39)):=HB1.out.alloc HB1.out.size _;have x1:(w1.alloc (.cells #[.int .i64 r,.int .i64 z.1,.int .i64 z.2] 39)).heap[w1.heap.size]? =some (.cells #[.int .i64 r,.int .i64 z.1,.int .i64 z.2] 39 (0,0)):=heap_new _ _ _ rfl;generalize w1.alloc (.cells #[.int .i64 r,.int .i64 z.1,.int .i64 z.2] 39)=w2 at *;generalize w1.heap.size=d at *;have d1:w2.cell? ⟨d,1,none⟩=some (.int .i64 z.1):=cell_of_row _ _ 1 _ _ _ x1;have d2:w2.cell? ⟨d,2,none⟩=some (.int .i64 z.2):=cell_of_row _ _ 2 _ _ _ x1;obtain⟨a0,a1,a2⟩:=HB0.out _ K1;have HB2:=Hd K1;clear K1 x1 HB1 a1 a2
 go_wp2_with fail
 refine(HCE.out _).mono ?_;rintro e w3 ⟨rfl,hb3⟩;have HB3:=Hd (HB2.out.trans (hb3.mono HB2.out.size));clear hb3 d1 d2 a0 HCE HB2;obtain⟨_,a1,a2⟩:=HB0.out _ HB3.out;have l0:w3.cell? ⟨b1,0,none⟩=some (.int .i64 lx):=cell_of_row _ _ 0 _ _ _ a1;have l1:w3.cell? ⟨b1,1,none⟩=some (.int .i64 ly):=cell_of_row _ _ 1 _ _ _ a1;have u0:w3.cell? ⟨b2,0,none⟩=some (.int .i64 hx):=cell_of_row _ _ 0 _ _ _ a2;have u1:w3.cell? ⟨b2,1,none⟩=some (.int .i64 hy):=cell_of_row _ _ 1 _ _ _ a2;have g1:=(Array.getElem?_eq_some_iff.1 a1).1;have g2:=(Array.getElem?_eq_some_iff.1 a2).1;clear a1 a2 HB0
 go_upto_region 3 with(fail)
 by_cases c1:x<lx
 ·have hv:Hid (res=true):=by show _=_;rw[HF.out,decide_eq_true c1];rfl
  clear HF
  go_wp2_with(first|(with_reducible refine wp_region_lex (by kernel_rfl) (by kernel_rfl) ?_)|(with_reducible refine OnlyG.intro (by kernel_rfl) ?_))
  go_ret;exact⟨by rw[hv.out];rfl,HB3.out⟩
 ·by_cases c2:hx<x
  ·have hv:Hid (res=true):=by show _=_;rw[HF.out,decide_eq_true c2];simp
   clear HF
   go_wp2_with(first|(with_reducible refine wp_region_lex (by kernel_rfl) (by kernel_rfl) ?_)|(with_reducible refine OnlyG.intro (by kernel_rfl) ?_))
   go_ret;exact⟨by rw[hv.out];rfl,HB3.out⟩
  ·by_cases c3:y<ly
   ·have hv:Hid (res=true):=by show _=_;rw[HF.out,decide_eq_true c3];simp
    clear HF
    go_wp2_with(first|(with_reducible refine wp_region_lex (by kernel_rfl) (by kernel_rfl) ?_)|(with_reducible refine OnlyG.intro (by kernel_rfl) ?_))
    go_ret;exact⟨by rw[hv.out];rfl,HB3.out⟩
   ·have hv:Hid (res=decide (hy<y)):=by show _=_;rw[HF.out,decide_eq_false c1,decide_eq_false c2,decide_eq_false c3];simp
    clear HF
    go_wp2_with(first|(with_reducible refine wp_region_lex (by kernel_rfl) (by kernel_rfl) ?_)|(with_reducible refine OnlyG.intro (by kernel_rfl) ?_))
    go_ret;exact⟨by rw[hv.out];rfl,HB3.out⟩
def CenP(w:World)(lo hi:E2)(r:Int)(e:Ending)(w':World):Prop:=
 if chE lo hi r=0 then
  (∃ D L ao c n,AllOf (12-r.toNat) (triE lo) (triE hi) D/\D.length<=20000/\L=(srt (wsL r.toNat D)).filter (cenB r.toNat lo hi)/\e=.returned (.tuple #[.slice ao n c,.int .i64 0])/\n=L.length/\w'.ownsRow w.heap.size 35 1 (.slice ao n c) n (uV L))∨
  (∃ D:List E2,D.Nodup/\D.length=20001/\(∀ z∈D,TouchP (hexC (12-r.toNat) z) (triE lo) (triE hi))/\e=.returned (.tuple #[.slice none 0 0,.int .i64 7]))
 else e=.returned (.tuple #[.slice none 0 0,.int .i64 (chE lo hi r)])
theorem centres_any(lo hi:E2)(r:Int)(w:World):Calls Tryz.prog 9 #[vE lo,vE hi,.int .i64 r] w fun e w'=>CenP w lo hi r e w'/\Below w.heap.size w w':=by
 have hmf:∀(fn:Fn) (first cap:Array Value) (w:World),(Instr.makeFunc fn first cap).run Tryz.prog w=.ok (.func fn first cap) w:=fun _ _ _ _=>rfl
 have HBX:=Hd (fun w=>box_any lo hi r w);obtain⟨lx,ly⟩:=lo;obtain⟨hx,hy⟩:=hi;obtain⟨w1,hw1⟩:∃W,((w.alloc (.cells #[.int .i64 lx,.int .i64 ly] 26)).alloc (.cells #[.int .i64 hx,.int .i64 hy] 26)).alloc (.cells #[.int .i64 r] 3)=W:=⟨_,rfl⟩;have hb1:Below w.heap.size w w1:=by rw[<- hw1];exact((br.alloc lr _).alloc (by simp) _).alloc (by simp only[World.size_alloc];omega) _
 have x0:w1.heap[w.heap.size]? =some (.cells #[.int .i64 lx,.int .i64 ly] 26 (0,0)):=by
  rw[<- hw1,Below.heap_alloc _ _ _ (by simp only[World.size_alloc];omega),Below.heap_alloc _ _ _ (by simp)];exact heap_new _ _ _ rfl
 have x1:w1.heap[w.heap.size+1]? =some (.cells #[.int .i64 hx,.int .i64 hy] 26 (0,0)):=by
  rw[<- hw1,Below.heap_alloc _ _ _ (by simp)];exact heap_new _ _ _ (by simp)
 have x2:w1.heap[w.heap.size+1+1]? =some (.cells #[.int .i64 r] 3 (0,0)):=by
  rw[<- hw1];exact heap_new _ _ _ (by simp)
 have lt:∀{k:Nat} {o:Obj},w1.heap[k]? =some o->k<w1.heap.size:=fun h=>(Array.getElem?_eq_some_iff.1 h).1
 have HA:Hid (∀ wx (B:Nat),Below B w1 wx->w1.heap.size<=B->(wx.heap[w.heap.size]? =some (.cells #[.int .i64 lx,.int .i64 ly] 26 (0,0))/\wx.heap[w.heap.size+1]? =some (.cells #[.int .i64 hx,.int .i64 hy] 26 (0,0))/\wx.heap[w.heap.size+1+1]? =some (.cells #[.int .i64 r] 3 (0,0)))):=fun wx B hx hB=>
  ⟨(hx.block _ (by have:=lt x0;omega)).trans x0,(hx.block _ (by have:=lt x1;omega)).trans x1,(hx.block _ (by have:=lt x2;omega)).trans x2⟩
 have HB:=Hd hb1;have HW1:=Hd hw1;clear hw1 hb1 x0 x1 x2 lt;simp only[vE]at*
 go_enter Tryz.func9,Tryz.ntmps9
 go_upto_region 1 with(fail)
 rw[HW1.out];clear HW1;obtain⟨y0,y1,y2⟩:=HA.out w1 _ br lr;have l0:w1.cell? ⟨w.heap.size,0,none⟩=some (.int .i64 lx):=cell_of_row _ _ 0 _ _ _ y0;have l1:w1.cell? ⟨w.heap.size,1,none⟩=some (.int .i64 ly):=cell_of_row _ _ 1 _ _ _ y0;have u0:w1.cell? ⟨w.heap.size+1,0,none⟩=some (.int .i64 hx):=cell_of_row _ _ 0 _ _ _ y1;have u1:w1.cell? ⟨w.heap.size+1,1,none⟩=some (.int .i64 hy):=cell_of_row _ _ 1 _ _ _ y1;have r0:w1.cell? ⟨w.heap.size+1+1,0,none⟩=some (.int .i64 r):=cell_of_row _ _ 0 _ _ _ y2;clear y0 y1 y2
 go_wp2_with fail
 refine(HBX.out _).mono ?_;rintro e w2 ⟨hP,hb2⟩;have HB2:=Hd hb2;clear hb2 HBX l0 l1 u0 u1 r0;unfold BoxP at hP;by_cases hch:chE (lx,ly) (hx,hy) r=0
 ·rw[if_pos hch]at hP
  rcases hP with⟨D,ao,c,n,h1,h2,rfl,h3,h4⟩|⟨D,h1,h2,h3,rfl⟩
  ·obtain⟨k,rfl⟩:∃k:Nat,r=k:=⟨r.toNat,by have:=(ch_ok hch).1;omega⟩
   have h20:n<=20000:=by rw[h3];exact Nat.le_trans (wsL_le _ _) h2
   have hnl:(srt (wsL k D)).length=n:=by rw[srt_length,h3];rfl
   have HAsk:Hid (∀ blk,(∀ g o s,ao=some ⟨g,o,s⟩->g=blk)->w1.heap.size<=blk->AskU 33 #[.pointer (some ⟨w.heap.size+1+1,0,none⟩),.pointer (some ⟨w.heap.size,0,none⟩),.pointer (some ⟨w.heap.size+1,0,none⟩)] (fun x=> !cenB k (lx,ly) (hx,hy) x) w2 blk (srt (wsL k D))):=by
    intro blk hblk hge W x hW hxm;rw[srt_mem]at hxm;unfold wsL at hxm;obtain⟨z,hz,rfl⟩:=List.mem_map.1 hxm;have hz2:=(List.mem_filter.1 hz).2;have hbw:Below w1.heap.size w2 W:=hW.below HB2.out.size fun q hq e=>by omega
    obtain⟨q0,q1,q2⟩:=HA.out W w1.heap.size (HB2.out.trans hbw) lr;exact ask_any k (lx,ly) (hx,hy) hz2 _ _ _ W (cell_of_row _ _ 0 _ _ _ q2) q0 q1 (Array.getElem?_eq_some_iff.1 q2).1
   obtain⟨blk,hblk,hge⟩:∃blk,(∀ g o s,ao=some ⟨g,o,s⟩->g=blk)/\w1.heap.size<=blk:=by
    cases ao with
    |none=>exact⟨w1.heap.size,fun g o s e=>(by cases e),lr⟩
    |some a=>
     obtain⟨g,o,s⟩:=a;exact⟨g,fun g' o' s' e=>by cases e;rfl,(own_lt h4 g o s rfl).1⟩
   have HDF:=Hd (cendelete_any _ _ ao n c _ w2 w1.heap.size blk hnl (by omega) HB2.out.size h4 (HAsk.out blk hblk hge) hblk);have hff:((srt (wsL k D)).filter fun x=> !(!cenB k (lx,ly) (hx,hy) x))=(srt (wsL k D)).filter (cenB k (lx,ly) (hx,hy)):=List.filter_congr fun x _=>Bool.not_not _
   rw[hff]at HDF;have HY:Hid (∀ w' m,m=((srt (wsL k D)).filter (cenB k (lx,ly) (hx,hy))).length->w'.ownsRow w1.heap.size 35 1 (.slice ao m c) m (uV ((srt (wsL k D)).filter (cenB k (lx,ly) (hx,hy))))->CenP w (lx,ly) (hx,hy) k (.returned (.tuple #[.slice ao m c,.int .i64 0])) w'):=fun w' m hm ho=>by
    unfold CenP;rw[if_pos hch];exact .inl ⟨D,_,ao,c,m,h1,h2,rfl,rfl,hm,own_base ho HB.out.size⟩
   have HT:Hid (∀ g o s,ao=some ⟨g,o,s⟩->w1.heap.size<=g):=fun g o s e=>(own_lt h4 g o s e).1
   generalize(srt (wsL k D)).filter (cenB k (lx,ly) (hx,hy))=F at *;generalize(fun x=> !cenB k (lx,ly) (hx,hy) x)=pp at *;clear h1 h2 h3 h4 hch HAsk hff hnl hblk hge HA
   go_wp2_with fail
   refine HDF.out.mono ?_;rintro e w3 ⟨rfl,ho,ht⟩;go_wp2;go_ret2;refine⟨HY.out w3 _ rfl ho,HB.out.trans ((HB2.out.trans (ht.below HB2.out.size fun q hq e=>?_)).mono HB.out.size)⟩;have:=HT.out q 0 none e;omega
  ·have HY:Hid (CenP w (lx,ly) (hx,hy) r (.returned (.tuple #[.slice none 0 0,.int .i64 7])) w2):=by
    unfold CenP;rw[if_pos hch];exact .inr ⟨D,h1,h2,h3,rfl⟩
   clear h1 h2 h3 hch HA;go_wp2;go_ret2;exact⟨HY.out,HB.out.trans (HB2.out.mono HB.out.size)⟩
 ·rw[if_neg hch]at hP
  subst hP;have HY:Hid (CenP w (lx,ly) (hx,hy) r (.returned (.tuple #[.slice none 0 0,.int .i64 (chE (lx,ly) (hx,hy) r)])) w2):=by
   unfold CenP;rw[if_neg hch]
   rfl
  have hb:(chE (lx,ly) (hx,hy) r==0)=false:=beq_eq_false_iff_ne.2 hch;generalize chE (lx,ly) (hx,hy) r=er at *;clear hch HA;go_wp2;go_ret2;exact⟨HY.out,HB.out.trans (HB2.out.mono HB.out.size)⟩
end
end Go.Proofs.YtpkoapmpknbgoaaGreat
namespace Go.Proofs.YtpkoapmpknbgoaaGreat.Po
section
open Go.RowKit
def side(a b c d x y:Int):Int:=
 if wrap64 (wrap64 (x-a)*wrap64 (d-b))<wrap64 (wrap64 (c-a)*wrap64 (y-b))then 1
 else if wrap64 (wrap64 (c-a)*wrap64 (y-b))<wrap64 (wrap64 (x-a)*wrap64 (d-b))then -1 else 0
def btw(a b n:Int):Bool:=decide (min a b<=n)&&decide (n<=max a b)
def onE(a b c d x y:Int):Bool:=btw a c x&&btw b d y&&side a b c d x y==0
def crE(a b c d x y:Int):Bool:=if b<=y/\y<d then decide (0<side a b c d x y)else if d<=y/\y<b then decide (side a b c d x y<0)else false
theorem side_any(a b c d x y:Int)(w:World):
  Calls Tryz.prog 140 #[.agg #[.int .i64 a,.int .i64 b,.int .i64 c,.int .i64 d],.int .i64 x,.int .i64 y] w fun e w'=>e=.returned (.int .i64 (side a b c d x y))/\Below w.heap.size w w':=by
 go_enter Tryz.func140,Tryz.ntmps140
 go_wp2
 go_quiet (fail)
 go_wp2
 ·go_ret
  exact⟨ret_int (by unfold side;rw[if_pos (by assumption)]),below_drewN (br.alloc lr _) _⟩
 ·go_ret
  exact⟨ret_int (by unfold side;rw[if_neg (by omega),if_pos (by assumption)]),below_drewN (br.alloc lr _) _⟩
 ·go_ret
  exact⟨ret_int (by unfold side;rw[if_neg (by omega),if_neg (by omega)]),below_drewN (br.alloc lr _) _⟩
theorem btw_any(a b n:Int)(w:World):
  Calls Tryz.prog 139 #[.int .i64 a,.int .i64 b,.int .i64 n] w fun e w'=>e=.returned (.bool (btw a b n))/\w=w':=by
 by_cases h:a<=b
 ·go_enter Tryz.func139,Tryz.ntmps139
  go_wp2
  all_goals
   go_ret;exact⟨ret_bool (by unfold btw;rw[Bool.eq_iff_iff];simp;omega),rfl⟩
 ·go_enter Tryz.func139,Tryz.ntmps139
  go_wp2
  all_goals
   go_ret;exact⟨ret_bool (by unfold btw;rw[Bool.eq_iff_iff];simp;omega),rfl⟩
theorem on_any(a b c d x y:Int)(w:World):
  Calls Tryz.prog 96 #[.agg #[.int .i64 a,.int .i64 b,.int .i64 c,.int .i64 d],.int .i64 x,.int .i64 y] w fun e w'=>e=.returned (.bool (onE a b c d x y))/\Below w.heap.size w w':=by
 by_cases h:btw a c x=true
 ·by_cases h2:btw b d y=true
  ·go_enter Tryz.func96,Tryz.ntmps96
   go_wp2_with(first|(go_at_call 139;refine(btw_any _ _ _ _).mono ?_;rintro e w' ⟨rfl,rfl⟩)|(go_at_call 140;refine(side_any _ _ _ _ _ _ _).mono ?_;rintro e w' ⟨rfl,hb⟩))
   go_ret;exact⟨ret_bool (by simp[onE,h,h2]),below_alloc hb⟩
  ·simp only[Bool.not_eq_true]at h2
   go_enter Tryz.func96,Tryz.ntmps96
   go_wp2_with(first|(go_at_call 139;refine(btw_any _ _ _ _).mono ?_;rintro e w' ⟨rfl,rfl⟩))
   go_ret;exact⟨ret_bool (by simp[onE,h2]),br.alloc lr _⟩
 ·simp only[Bool.not_eq_true]at h
  go_enter Tryz.func96,Tryz.ntmps96
  go_wp2_with(first|(go_at_call 139;refine(btw_any _ _ _ _).mono ?_;rintro e w' ⟨rfl,rfl⟩))
  go_ret;exact⟨ret_bool (by simp[onE,h]),br.alloc lr _⟩
theorem cr_any(a b c d x y:Int)(w:World):
  Calls Tryz.prog 97 #[.agg #[.int .i64 a,.int .i64 b,.int .i64 c,.int .i64 d],.int .i64 x,.int .i64 y] w fun e w'=>e=.returned (.bool (crE a b c d x y))/\Below w.heap.size w w':=by
 by_cases h:b<=y
 ·by_cases h2:y<d
  ·go_enter Tryz.func97,Tryz.ntmps97
   go_wp2_with(first|(go_at_call 140;refine(side_any _ _ _ _ _ _ _).mono ?_;rintro e w' ⟨rfl,hb⟩))
   go_ret;exact⟨ret_bool (by unfold crE;rw[if_pos ⟨h,h2⟩]),below_alloc hb⟩
  ·go_enter Tryz.func97,Tryz.ntmps97
   go_wp2;go_ret;exact⟨ret_bool (by unfold crE;rw[if_neg (by omega),if_neg (by omega)]),br.alloc lr _⟩
 ·by_cases h2:d<=y
  ·go_enter Tryz.func97,Tryz.ntmps97
   go_wp2_with(first|(go_at_call 140;refine(side_any _ _ _ _ _ _ _).mono ?_;rintro e w' ⟨rfl,hb⟩))
   go_ret;exact⟨ret_bool (by unfold crE;rw[if_neg (by omega),if_pos (by omega)]),below_alloc hb⟩
  ·go_enter Tryz.func97,Tryz.ntmps97
   go_wp2;go_ret;exact⟨ret_bool (by unfold crE;rw[if_neg (by omega),if_neg (by omega)]),br.alloc lr _⟩
abbrev Pt:=Int×Int
def px(l:List Pt)(k:Nat):Int:=(l.getD k (0,0)).1
def py(l:List Pt)(k:Nat):Int:=(l.getD k (0,0)).2
def RingAt(w:World)(B:Nat)(ao:Option Addr)(l:List Pt):Prop:=
 0<l.length->∃b off,ao=some ⟨b,off,none⟩/\b<B/\∀k,k<l.length->
  w.cell? ⟨b,off+k*2,none⟩=some (.int .i64 (px l k))/\w.cell? ⟨b,off+k*2+1,none⟩=some (.int .i64 (py l k))
theorem RingAt.below{w w':World}{B:Nat}{ao:Option Addr}{l:List Pt}(h:RingAt w B ao l){C:Nat}(hb:Below C w w')(hC:B<=C):RingAt w' B ao l:=by
 intro h0;obtain⟨b,off,e,hlt,hc⟩:=h h0;refine⟨b,off,e,hlt,fun k hk=>?_⟩;rw[hb.cell (p:=⟨b,_,none⟩) (show b<C by omega),hb.cell (p:=⟨b,_,none⟩) (show b<C by omega)];exact hc k hk
def edgeV(l:List Pt)(k:Nat):List Value:=
 [.int .i64 (px l k),.int .i64 (py l k),.int .i64 (px l ((k+1)%l.length)),.int .i64 (py l ((k+1)%l.length))]
def edgeVs(l:List Pt)(k:Nat):List Value:=(List.range k).flatMap (edgeV l)
theorem info_edge:(Tryz.prog.info? 141).map (fun i=>(i.zero,i.size,i.bytes))=some (some (.agg #[.int .i64 0,.int .i64 0,.int .i64 0,.int .i64 0]),4,32):=by kernel_rfl
theorem edgeVs_succ(l:List Pt)(k:Nat):edgeVs l (k+1)=edgeVs l k++edgeV l k:=by
 unfold edgeVs;rw[List.range_succ,List.flatMap_append];simp
theorem oneCell_edgeV(l:List Pt)(k:Nat):∀u∈edgeV l k,u.oneCell'=true:=by
 intro u hu;simp[edgeV]at hu;rcases hu with rfl|rfl|rfl|rfl <;> rfl
theorem edges_any(ao:Option Addr)(c:Nat)(l:List Pt)(w:World)(B:Nat)(hB:B<=w.heap.size)(h:RingAt w B ao l)(hl:l.length<=1000000000):
  Calls Tryz.prog 95 #[.slice ao l.length c] w fun e w'=>∃v,e=.returned v/\w'.ownsRow w.heap.size 141 4 v l.length (edgeVs l l.length)/\Below w.heap.size w w':=by
 obtain⟨i0,hi,hz0,hz1,hz2⟩:=info_parts info_edge
 go_enter Tryz.func95,Tryz.ntmps95
 go_wp2
 go_loopw [3,8] (fun v i wr=>∃k:Nat,k<=l.length/\i=.int .i64 k/\wr.ownsRow w.heap.size 141 4 v k (edgeVs l k)/\Below w.heap.size w wr) (fun _ i _=>l.length-(intOf i).toNat)
 case atStart=>exact⟨0,Nat.zero_le _,rfl,World.ownsRow_nil _ _ _ _,br⟩
 case round=>
  obtain⟨k,hk,rfl,hown,hnx⟩:=hrel;by_cases hlt:k<l.length
  ·obtain⟨b,off,rfl,hb,hc⟩:=h.below hnx hB (by omega)
   have c0:=(hc k hlt).1;have c1:=(hc k hlt).2;have hm:(k+1)%l.length<l.length:=Nat.mod_lt _ (by omega);have d0:=(hc _ hm).1;have d1:=(hc _ hm).2;clear hc;have hsz:=hnx.size;have hbw:b<wr.heap.size:=by omega
   have hm2:0<=((k:Int)+1)%(l.length:Int)/\((k:Int)+1)%(l.length:Int)<(l.length:Int):=⟨Int.emod_nonneg _ (by omega),Int.emod_lt_of_pos _ (by omega)⟩
   go_wp2_with(first|(with_reducible refine wp_region_lex (by kernel_rfl) (by kernel_rfl) ?_)|(with_reducible refine OnlyG.intro (by kernel_rfl) ?_)|(at_builtin;refine wpList_append_own _ rfl (.tmp 13) (.tmp 24) 138 rfl w.heap.size 141 i0 (.agg #[.int .i64 0,.int .i64 0,.int .i64 0,.int .i64 0]) 4 32 Tryz.underlying138 hi hz0 hz1 hz2 rfl (by decide) _ _ _ rfl (((hown.alloc _).alloc _).drew) ⟨wr.heap.size+1,0,none⟩ 1 1 (edgeV l k) rfl rfl (cells_new_drew _ _ _ _ (by simp)) (oneCell_edgeV l k) (by unfold maxLen;omega) (by omega) (by simp;omega) ?_;intro v' w1 hown1 hgrow _;rw[<- edgeVs_succ]at hown1))
   go_roundw
   case rel=>exact⟨k+1,by omega,by go_num,hown1,below_append (((hnx.alloc hsz _).alloc (by simp;omega) _).drew) (((hown.alloc _).alloc _).drew) (by simp;omega) hgrow⟩
   case measure=>simp[intOf];omega
  ·have hkl:k=l.length:=by omega
   go_wp2;go_ret;subst hkl;exact⟨_,rfl,hown,hnx⟩
def rg(ls:List (List Pt))(i:Nat):List Pt:=ls.getD i []
def RingsAt(w:World)(B:Nat)(ao:Option Addr)(ls:List (List Pt)):Prop:=
 0<ls.length->∃b off,ao=some ⟨b,off,none⟩/\b<B/\∀i,i<ls.length->
  ∃ri ci,w.cell? ⟨b,off+i,none⟩=some (.slice ri (rg ls i).length ci)/\RingAt w B ri (rg ls i)
theorem RingsAt.below{w w':World}{B:Nat}{ao:Option Addr}{ls:List (List Pt)}(h:RingsAt w B ao ls){C:Nat}(hb:Below C w w')(hC:B<=C):RingsAt w' B ao ls:=by
 intro h0;obtain⟨b,off,e,hlt,hc⟩:=h h0;refine⟨b,off,e,hlt,fun i hi=>?_⟩;obtain⟨ri,ci,h1,h2⟩:=hc i hi;exact⟨ri,ci,by rw[hb.cell (p:=⟨b,_,none⟩) (show b<C by omega)];exact h1,h2.below hb hC⟩
def outP(p:Pt):Bool:=decide (p.1<0)||decide (1073741824<=p.1)||decide (p.2<0)||decide (1073741824<=p.2)
def outs(l:List Pt)(j:Nat):Bool:=(l.take j).any outP
def totTo(ls:List (List Pt))(k:Nat):Nat:=((ls.take k).map List.length).sum
def shTo(ls:List (List Pt))(k:Nat):Bool:=decide (ls.length=0)||(ls.take k).any fun l=>decide (l.length<3)
def outTo(ls:List (List Pt))(k:Nat):Bool:=(ls.take k).any fun l=>l.any outP
def checkF(ls:List (List Pt)):Int:=
 if 20<ls.length∨500<totTo ls ls.length then 7 else if shTo ls ls.length=true then 1 else if outTo ls ls.length=true then 4 else 0
theorem take_succ'{α:Type}(l:List α)(k:Nat)(d:α)(h:k<l.length):l.take (k+1)=l.take k++[l.getD k d]:=by
 rw[List.take_succ_eq_append_getElem h];simp[h]
theorem totTo_succ(ls:List (List Pt))(k:Nat)(h:k<ls.length):totTo ls (k+1)=totTo ls k+(rg ls k).length:=by
 unfold totTo rg;rw[take_succ' ls k [] h];simp
theorem totTo_le(ls:List (List Pt))(k:Nat)(h:k<=ls.length):totTo ls k<=totTo ls ls.length:=by
 obtain⟨d,hd⟩:∃d,ls.length=k+d:=⟨ls.length-k,by omega⟩;clear h;rw[hd];clear hd
 induction d with
 |zero=>exact lr
 |succ d ih=>
  refine Nat.le_trans ih ?_;rw[show k+(d+1)=(k+d)+1 from rfl];by_cases h:k+d<ls.length
  ·rw[totTo_succ ls _ h];omega
  ·unfold totTo;rw[List.take_of_length_le (by omega),List.take_of_length_le (by omega)];exact lr
theorem shTo_succ(ls:List (List Pt))(k:Nat)(h:k<ls.length):shTo ls (k+1)=(shTo ls k||decide ((rg ls k).length<3)):=by
 unfold shTo rg;rw[take_succ' ls k [] h];simp[Bool.or_assoc]
theorem outTo_succ(ls:List (List Pt))(k:Nat)(h:k<ls.length):outTo ls (k+1)=(outTo ls k||outs (rg ls k) (rg ls k).length):=by
 unfold outTo outs rg;rw[take_succ' ls k [] h];simp
theorem outs_succ(l:List Pt)(j:Nat)(h:j<l.length):outs l (j+1)=(outs l j||outP (px l j,py l j)):=by
 unfold outs px py;rw[take_succ' l j (0,0) h];simp
theorem outs_zero(l:List Pt):outs l 0=false:=rfl
theorem check_big(ao:Option Addr)(c:Nat)(ls:List (List Pt))(w:World)(B:Nat)(hB:B<=w.heap.size)(h:RingsAt w B ao ls)(hn:ls.length<=1000000000)(ht:totTo ls ls.length<=1000000000000000):
  Calls Tryz.prog 27 #[.slice ao ls.length c] w fun e w'=>e=.returned (.int .i64 (checkF ls))/\Below w.heap.size w w':=by
 obtain⟨n,hnn⟩:∃n,ls.length=n:=⟨_,rfl⟩;rw[hnn]at hn;rw[hnn];have hs0:shTo ls 0=decide (n=0):=by simp[shTo,hnn]
 have ht0:totTo ls 0=0:=rfl;have ho0:outTo ls 0=false:=rfl;have HN:Hid (ls.length=n):=hnn;have HS0:Hid (shTo ls 0=decide (n=0)):=hs0;clear hnn hs0
 go_enter Tryz.func27,Tryz.ntmps27
 go_wp2
 go_loopw [3,4,5,15] (fun v3 v4 v5 i wr=>∃(k t:Nat) (s o:Bool),k<=n/\i=.int .i64 k/\v3=.int .i64 t/\v4=.bool s/\v5=.bool o/\Hid (t=totTo ls k/\s=shTo ls k/\o=outTo ls k)/\Below w.heap.size w wr) (fun _ _ _ i _=>n-(intOf i).toNat)
 case atStart=>exact⟨0,0,decide (n=0),false,Nat.zero_le _,rfl,rfl,by rw[Value.bool.injEq,Bool.eq_iff_iff];simp,rfl,⟨rfl,HS0.out.symm,rfl⟩,br⟩
 case round=>
  obtain⟨k,t,s,o,hk,rfl,rfl,rfl,rfl,HT,hnx⟩:=hrel;have hsz:=hnx.size;by_cases hlt:k<n
  ·obtain⟨b,off,rfl,hb,hc⟩:=h (by rw[HN.out];omega)
   obtain⟨ri,ci,c0w,hri⟩:=hc k (by rw[HN.out];exact hlt);have c0:=(hnx.cell (p:=⟨b,off+k,none⟩) (show b<w.heap.size by omega)).trans c0w;have HM:Hid (∃ m,(rg ls k).length=m):=⟨_,rfl⟩;obtain⟨m,hm⟩:=HM.out;rw[hm]at c0;clear c0w;have htm:t+m<=1000000000000000:=by
    rw[HT.out.1, <-hm, <-totTo_succ ls k (by rw[HN.out];exact hlt)];exact Nat.le_trans (totTo_le ls _ (by rw[HN.out];omega)) ht
   have HML:Hid ((rg ls k).length=m):=hm;clear hm HM hc;obtain⟨wo,hwo⟩:∃wo:World,wo=wr:=⟨_,rfl⟩;subst hwo;have h3:s=true∨(s=false/\m<3)∨(s=false/\¬m<3):=by
    cases s
    ·by_cases h3:m<3
     ·exact .inr (.inl ⟨rfl,h3⟩)
     ·exact .inr (.inr ⟨rfl,h3⟩)
    ·exact .inl rfl
   rcases h3 with rfl|⟨rfl,hm3⟩|⟨rfl,hm3⟩
   all_goals
    go_wp2
    go_loopw [5,31] (fun v5 i wi=>∃(j:Nat) (o2:Bool),j<=m/\i=.int .i64 j/\v5=.bool o2/\Hid (o2=(o||outs (rg ls k) j))/\Below w.heap.size w wi) (fun _ i _=>m-(intOf i).toNat)
    case atStart=>exact⟨0,o,Nat.zero_le _,rfl,rfl,(by simp[outs_zero]:o=(o||outs (rg ls k) 0)),hnx⟩
    case round=>
     obtain⟨j,o2,hj,rfl,rfl,HO,hni⟩:=hrel;by_cases hjl:j<m
     ·have hsi:=hni.size
      obtain⟨rb,ro,rfl,hrb,hrc⟩:=hri.below hni hB (by rw[HML.out];omega);have d0:=(hrc j (by rw[HML.out];exact hjl)).1;have d1:=(hrc j (by rw[HML.out];exact hjl)).2;have HOS:=outs_succ (rg ls k) j (by rw[HML.out];exact hjl);generalize px (rg ls k) j=x at d0 HOS;generalize py (rg ls k) j=y at d1 HOS;have HOX:Hid (outs (rg ls k) (j+1)=(outs (rg ls k) j||outP (x,y))):=HOS;clear hrc HOS;have hcases:o2=true∨(o2=false/\x<0)∨(o2=false/\0<=x/\1073741824<=x)∨(o2=false/\0<=x/\x<1073741824/\y<0)∨(o2=false/\0<=x/\x<1073741824/\0<=y/\1073741824<=y)∨(o2=false/\0<=x/\x<1073741824/\0<=y/\y<1073741824):=by
       cases o2
       ·by_cases h1:x<0
        ·exact .inr (.inl ⟨rfl,h1⟩)
        ·by_cases h2:1073741824<=x
         ·exact .inr (.inr (.inl ⟨rfl,by omega,h2⟩))
         ·by_cases h3:y<0
          ·exact .inr (.inr (.inr (.inl ⟨rfl,by omega,by omega,h3⟩)))
          ·by_cases h4:1073741824<=y
           ·exact .inr (.inr (.inr (.inr (.inl ⟨rfl,by omega,by omega,by omega,h4⟩))))
           ·exact .inr (.inr (.inr (.inr (.inr ⟨rfl,by omega,by omega,by omega,by omega⟩))))
       ·exact .inl rfl
      rcases hcases with rfl|⟨rfl,h1⟩|⟨rfl,h1,h2⟩|⟨rfl,h1,h2,h3⟩|⟨rfl,h1,h2,h3,h4⟩|⟨rfl,h1,h2,h3,h4⟩
      all_goals
       go_wp2
       go_roundw
       case rel=>exact⟨j+1,_,by omega,by go_num,rfl,by show _=_;rw[HOX.out, <-Bool.or_assoc, <-HO.out];simp[outP];try omega,(hni.alloc hsi _)⟩
       case measure=>simp[intOf];omega
     ·obtain rfl:j=m:=by omega
      have hkl:k<ls.length:=by rw[HN.out];exact hlt
      go_wp2
      go_roundw
      case rel=>
       exact⟨k+1,t+j,_,o2,by omega,by go_num,by go_num,rfl,rfl,⟨by rw[HT.out.1,totTo_succ ls k hkl,HML.out],
        by rw[shTo_succ ls k hkl, <-HT.out.2.1,HML.out];simp;try omega,by rw[outTo_succ ls k hkl, <-HT.out.2.2,HML.out];exact HO.out⟩,hni⟩
      case measure=>simp[intOf];omega
  ·obtain rfl:k=n:=by omega
   have FIN:Hid (checkF ls=if 20<k∨500<t then 7 else if s=true then 1 else if o=true then 4 else 0):=by
    show checkF ls=_;unfold checkF;rw[HN.out,HT.out.1,HT.out.2.1,HT.out.2.2]
   clear HT;by_cases h20:20<k
   ·go_wp2
    go_ret;exact⟨ret_int (by rw[FIN.out,if_pos (by omega)]),hnx⟩
   ·by_cases h500:500<t
    ·go_wp2
     go_ret;exact⟨ret_int (by rw[FIN.out,if_pos (by omega)]),hnx⟩
    ·cases s
     ·cases o
      ·go_wp2
       go_ret;exact⟨ret_int (by rw[FIN.out,if_neg (by omega)];rfl),hnx⟩
      ·go_wp2
       go_ret;exact⟨ret_int (by rw[FIN.out,if_neg (by omega)];rfl),hnx⟩
     ·go_wp2
      go_ret;exact⟨ret_int (by rw[FIN.out,if_neg (by omega)];rfl),hnx⟩
theorem check_any(ao:Option Addr)(c:Nat)(ls:List (List Pt))(w:World)(B:Nat)(hB:B<=w.heap.size)(h:RingsAt w B ao ls)(hn:ls.length<=1000000000)(ht:totTo ls ls.length<=1000000000):
 Calls Tryz.prog 27 #[.slice ao ls.length c] w fun e w'=>e=.returned (.int .i64 (checkF ls))/\Below w.heap.size w w':=check_big ao c ls w B hB h hn (Nat.le_trans ht (by decide))
theorem edgeVs_length(l:List Pt)(n:Nat):(edgeVs l n).length=n*4:=by
 induction n with
 |zero=>rfl
 |succ n ih=>rw[edgeVs_succ,List.length_append,ih];simp[edgeV];omega
theorem edgeVs_get(l:List Pt)(n j t:Nat)(hj:j<n)(ht:t<4):(edgeVs l n)[j*4+t]? =(edgeV l j)[t]? :=by
 induction n with
 |zero=>omega
 |succ n ih=>
  rw[edgeVs_succ];by_cases h:j<n
  ·rw[List.getElem?_append_left (by rw[edgeVs_length];omega)];exact ih h
  ·obtain rfl:j=n:=by omega
   rw[List.getElem?_append_right (by rw[edgeVs_length];omega),edgeVs_length];congr 1;omega
def EdgesAt(w:World)(B:Nat)(ao:Option Addr)(l:List Pt):Prop:=
 0<l.length->∃g,ao=some ⟨g,0,none⟩/\g<B/\∀j,j<l.length->
  w.cell? ⟨g,j*4,none⟩=some (.int .i64 (px l j))/\w.cell? ⟨g,j*4+1,none⟩=some (.int .i64 (py l j))/\
  w.cell? ⟨g,j*4+2,none⟩=some (.int .i64 (px l ((j+1)%l.length)))/\w.cell? ⟨g,j*4+3,none⟩=some (.int .i64 (py l ((j+1)%l.length)))
theorem EdgesAt.below{w w':World}{B:Nat}{ao:Option Addr}{l:List Pt}(h:EdgesAt w B ao l){C:Nat}(hb:Below C w w')(hC:B<=C):EdgesAt w' B ao l:=by
 intro h0;obtain⟨g,e,hlt,hc⟩:=h h0;refine⟨g,e,hlt,fun j hj=>?_⟩;rw[hb.cell (p:=⟨g,_,none⟩) (show g<C by omega),hb.cell (p:=⟨g,_,none⟩) (show g<C by omega),hb.cell (p:=⟨g,_,none⟩) (show g<C by omega),hb.cell (p:=⟨g,_,none⟩) (show g<C by omega)];exact hc j hj
theorem edges_at(ao:Option Addr)(c:Nat)(l:List Pt)(w:World)(B:Nat)(hB:B<=w.heap.size)(h:RingAt w B ao l)(hl:l.length<=1000000000):
  Calls Tryz.prog 95 #[.slice ao l.length c] w fun e w'=>∃ao' c',e=.returned (.slice ao' l.length c')/\EdgesAt w' w'.heap.size ao' l/\Below w.heap.size w w':=
 (edges_any ao c l w B hB h hl).mono fun e w' ⟨v,he,hown,hb⟩=>by
  obtain⟨ao',c',rfl,_,hc⟩:=own_form hown;refine⟨ao',c',he,fun h0=>?_,hb⟩;obtain⟨g,e1,_,hg,hc⟩:=hc h0;refine⟨g,e1,hg,fun j hj=>?_⟩;have hx:=fun t ht u hu=>hc (j*4+t) u ((edgeVs_get l l.length j t hj ht).trans hu)
  exact⟨hx 0 (by omega) _ rfl,hx 1 (by omega) _ rfl,hx 2 (by omega) _ rfl,hx 3 (by omega) _ rfl⟩
def nearF(ls:List (List Pt))(x y:Int):Bool:=decide (-2147483648<=x)&&decide (x<=2147483648)&&decide (-2147483648<=y)&&decide (y<=2147483648)&&checkF ls==0
theorem near_any(ao:Option Addr)(c:Nat)(ls:List (List Pt))(x y:Int)(w:World)(B:Nat)(hB:B<=w.heap.size)(h:RingsAt w B ao ls)(hn:ls.length<=1000000000)(ht:totTo ls ls.length<=1000000000):
  Calls Tryz.prog 94 #[.slice ao ls.length c,.int .i64 x,.int .i64 y] w fun e w'=>e=.returned (.bool (nearF ls x y))/\Below w.heap.size w w':=by
 have hc:∀w',Below w.heap.size w w'->RingsAt w' B ao ls:=fun w' hb=>h.below hb hB
 by_cases h1: -2147483648<=x/\x<=2147483648/\ -2147483648<=y/\y<=2147483648
 ·obtain⟨h1,h2,h3,h4⟩:=h1
  have HF:Hid (nearF ls x y=(checkF ls==0)):=by
   show _=_;unfold nearF;simp[h1,h2,h3,h4]
  go_enter Tryz.func94,Tryz.ntmps94
  go_wp2_with(go_at_call 27;refine(check_any _ _ _ _ B hB h hn ht).mono ?_;rintro e w' ⟨rfl,hb⟩)
  go_ret;exact⟨ret_bool HF.out.symm,hb⟩
 ·have HF:Hid (nearF ls x y=false):=by
   show _=_;unfold nearF;simp;omega
  rcases(show x< -2147483648∨(-2147483648<=x/\2147483648<x)∨(-2147483648<=x/\x<=2147483648/\y< -2147483648)∨(-2147483648<=x/\x<=2147483648/\ -2147483648<=y/\2147483648<y) by omega)with h2|⟨h2,h3⟩|⟨h2,h3,h4⟩|⟨h2,h3,h4,h5⟩
  all_goals
   clear h1
   go_enter Tryz.func94,Tryz.ntmps94
   go_wp2;go_ret;exact⟨ret_bool HF.out.symm,br⟩
def onEl(l:List Pt)(x y:Int)(j:Nat):Bool:=onE (px l j) (py l j) (px l ((j+1)%l.length)) (py l ((j+1)%l.length)) x y
def crEl(l:List Pt)(x y:Int)(j:Nat):Bool:=crE (px l j) (py l j) (px l ((j+1)%l.length)) (py l ((j+1)%l.length)) x y
def onR(l:List Pt)(x y:Int)(j:Nat):Bool:=(List.range j).any (onEl l x y)
def crR(l:List Pt)(x y:Int)(j:Nat):Bool:=(List.range j).foldl (fun o i=>o != crEl l x y i) false
def onTo(ls:List (List Pt))(x y:Int)(k:Nat):Bool:=(ls.take k).any fun l=>onR l x y l.length
def crTo(ls:List (List Pt))(x y:Int)(k:Nat):Bool:=(ls.take k).foldl (fun o l=>o != crR l x y l.length) false
def onF(ls:List (List Pt))(x y:Int):Bool:=nearF ls x y&&onTo ls x y ls.length
def insideF(ls:List (List Pt))(x y:Int):Bool:=nearF ls x y&&(onTo ls x y ls.length||crTo ls x y ls.length)
theorem onR_succ(l:List Pt)(x y:Int)(j:Nat):onR l x y (j+1)=(onR l x y j||onEl l x y j):=by unfold onR;rw[List.range_succ];simp
theorem crR_succ(l:List Pt)(x y:Int)(j:Nat):crR l x y (j+1)=(crR l x y j != crEl l x y j):=by unfold crR;rw[List.range_succ];simp
theorem onTo_succ(ls:List (List Pt))(x y:Int)(k:Nat)(h:k<ls.length):onTo ls x y (k+1)=(onTo ls x y k||onR (rg ls k) x y (rg ls k).length):=by
 unfold onTo rg;rw[take_succ' ls k [] h];simp
theorem crTo_succ(ls:List (List Pt))(x y:Int)(k:Nat)(h:k<ls.length):crTo ls x y (k+1)=(crTo ls x y k != crR (rg ls k) x y (rg ls k).length):=by
 unfold crTo rg;rw[take_succ' ls k [] h];simp
theorem onR_true{l:List Pt}{x y:Int}{j n:Nat}(hj:j<n)(h:onEl l x y j=true):onR l x y n=true:=by
 unfold onR;rw[List.any_eq_true];exact⟨j,by simpa using hj,h⟩
theorem onTo_true{ls:List (List Pt)}{x y:Int}{k:Nat}(hk:k<ls.length)(h:onR (rg ls k) x y (rg ls k).length=true):onTo ls x y ls.length=true:=by
 unfold onTo;rw[List.any_eq_true];exact⟨rg ls k,by simp[rg,hk],h⟩
theorem inside_any(ao:Option Addr)(c:Nat)(ls:List (List Pt))(x y:Int)(w:World)(B:Nat)(hB:B<=w.heap.size)(h:RingsAt w B ao ls)(hn:ls.length<=1000000000)(ht:totTo ls ls.length<=1000000000):
  Calls Tryz.prog 57 #[.slice ao ls.length c,.int .i64 x,.int .i64 y] w fun e w'=>e=.returned (.bool (insideF ls x y))/\Below w.heap.size w w':=by
 have hnear:=fun w (hB:B<=w.heap.size) (h:RingsAt w B ao ls)=>near_any ao c ls x y w B hB h hn ht
 obtain⟨n,hnn⟩:∃n,ls.length=n:=⟨_,rfl⟩;rw[hnn]at hn hnear ⊢;have HNEAR:=Hd hnear;have HT:=Hd ht;have HN:Hid (ls.length=n):=hnn;clear hnn hnear ht;cases hnf:nearF ls x y
 ·have HF:Hid (insideF ls x y=false):=by show _=_;unfold insideF;rw[hnf];rfl
  go_enter Tryz.func57,Tryz.ntmps57
  go_wp2_with(go_at_call 94;refine(HNEAR.out _ hB h).mono ?_;rintro e w' ⟨rfl,hb⟩)
  go_ret;exact⟨ret_bool HF.out.symm,hb⟩
 ·have HF:Hid (insideF ls x y=(onTo ls x y n||crTo ls x y n)):=by show _=_;unfold insideF;rw[hnf,HN.out];rfl
  go_enter Tryz.func57,Tryz.ntmps57
  go_wp2_with(go_at_call 94;refine(HNEAR.out _ hB h).mono ?_;rintro e w' ⟨rfl,hb⟩)
  go_loopw [7,19] (fun v7 i wr=>∃(k:Nat) (o:Bool),k<=n/\i=.int .i64 k/\v7=.bool o/\Hid (onTo ls x y k=false/\o=crTo ls x y k)/\Below w.heap.size w wr) (fun _ i _=>n-(intOf i).toNat)
  case atStart=>exact⟨0,false,Nat.zero_le _,rfl,rfl,⟨rfl,rfl⟩,hb⟩
  case round=>
   obtain⟨k,o,hk,rfl,rfl,HO,hnx⟩:=hrel;have hsz:=hnx.size;by_cases hlt:k<n
   ·have hkl:k<ls.length:=by rw[HN.out];exact hlt
    obtain⟨b,off,rfl,hbB,hc⟩:=h (by omega);obtain⟨ri,ci,c0w,hri⟩:=hc k hkl;have c0:=(hnx.cell (p:=⟨b,off+k,none⟩) (show b<w.heap.size by omega)).trans c0w;have hlen:(rg ls k).length<=1000000000:=by
     have h1:=totTo_succ ls k hkl;have h2:=totTo_le ls (k+1) (by omega);have:=HT.out;omega
    have HE:=Hd (edges_at ri ci (rg ls k) wr B (by omega) (hri.below hnx hB) hlen);have HK:=Hd hkl;obtain⟨m,hm⟩:∃m,(rg ls k).length=m:=⟨_,rfl⟩;rw[hm]at c0 HE hlen;have HML:Hid ((rg ls k).length=m):=hm;clear hm c0w hc hri hkl;obtain⟨wo,hwo⟩:∃wo:World,wo=wr:=⟨_,rfl⟩;subst hwo
    go_wp2_with(go_at_call 95;refine HE.out.mono ?_;rintro e w2 ⟨ao2,c2,rfl,hea,hb2⟩)
    have hnx2:=below_later hnx hsz hb2
    go_loopw [7,26] (fun v7 i wi=>∃(j:Nat) (o2:Bool),j<=m/\i=.int .i64 j/\v7=.bool o2/\Hid (onR (rg ls k) x y j=false/\o2=(o != crR (rg ls k) x y j))/\Below w2.heap.size w2 wi) (fun _ i _=>m-(intOf i).toNat)
    case atStart=>exact⟨0,o,Nat.zero_le _,rfl,rfl,⟨rfl,by simp[crR]⟩,br⟩
    case round=>
     obtain⟨j,o2,hj,rfl,rfl,HO2,hni⟩:=hrel;have hsi:=hni.size;by_cases hjl:j<m
     ·obtain⟨g,rfl,hg,hgc⟩:=hea.below hni lr (by rw[HML.out];omega)
      obtain⟨d0,d1,d2,d3⟩:=hgc j (by rw[HML.out];exact hjl);have HON:Hid (onE (px (rg ls k) j) (py (rg ls k) j) (px (rg ls k) ((j+1)%(rg ls k).length)) (py (rg ls k) ((j+1)%(rg ls k).length)) x y=onEl (rg ls k) x y j):=rfl;have HCR:Hid (crE (px (rg ls k) j) (py (rg ls k) j) (px (rg ls k) ((j+1)%(rg ls k).length)) (py (rg ls k) ((j+1)%(rg ls k).length)) x y=crEl (rg ls k) x y j):=rfl;generalize px (rg ls k) j=p0 at d0 HON HCR;generalize py (rg ls k) j=p1 at d1 HON HCR;generalize px (rg ls k) ((j+1)%(rg ls k).length)=q0 at d2 HON HCR;generalize py (rg ls k) ((j+1)%(rg ls k).length)=q1 at d3 HON HCR;clear hgc;cases hon:onEl (rg ls k) x y j
      ·rw[show onEl (rg ls k) x y j=false from hon]at HON
       have HONF:=Hd hon;clear hon;have hon2:onE p0 p1 q0 q1 x y=false:=HON
       go_wp2_with(first|(go_at_call 96;refine(on_any _ _ _ _ _ _ _).mono ?_;rintro e w3 ⟨rfl,hb3⟩;have e0:=cell_kept hb3 0 _ rfl;have e1:=cell_kept hb3 1 _ rfl;have e2:=cell_kept hb3 2 _ rfl;have e3:=cell_kept hb3 3 _ rfl)|(go_at_call 97;refine(cr_any _ _ _ _ _ _ _).mono ?_;rintro e w4 ⟨rfl,hb4⟩))
       go_roundw
       case rel=>exact⟨j+1,_,by omega,by go_num,rfl,⟨by rw[onR_succ,HO2.out.1,HONF.out];rfl,by rw[crR_succ,HO2.out.2, <-HCR.out];cases o <;> cases crR (rg ls k) x y j <;> cases crE p0 p1 q0 q1 x y <;> rfl⟩,(below_alloc' hni hb3).trans (hb4.mono (by have:=hb3.size;simp at this;omega))⟩
       case measure=>simp[intOf];omega
      ·rw[show onEl (rg ls k) x y j=true from hon]at HON
       have hon2:onE p0 p1 q0 q1 x y=true:=HON;have HFT:Hid (insideF ls x y=true):=by
        show _=_;rw[HF.out, <-HN.out,onTo_true HK.out (onR_true (by rw[HML.out];exact hjl) hon)]
        rfl
       clear hon
       go_wp2_with(first|(go_at_call 96;refine(on_any _ _ _ _ _ _ _).mono ?_;rintro e w3 ⟨rfl,hb3⟩;have e0:=cell_kept hb3 0 _ rfl;have e1:=cell_kept hb3 1 _ rfl;have e2:=cell_kept hb3 2 _ rfl;have e3:=cell_kept hb3 3 _ rfl))
       go_ret;exact⟨ret_bool HFT.out.symm,below_later hnx2 (by have:=hnx2.size;omega) (below_alloc' hni hb3)⟩
     ·obtain rfl:j=m:=by omega
      go_wp2
      go_roundw
      case rel=>exact⟨k+1,_,by omega,by go_num,rfl,⟨by rw[onTo_succ ls x y k HK.out,HO.out.1,HML.out,HO2.out.1];rfl,by rw[crTo_succ ls x y k HK.out, <-HO.out.2,HML.out];exact HO2.out.2⟩,below_later hnx2 (by have:=hnx2.size;omega) hni⟩
      case measure=>simp[intOf];omega
   ·obtain rfl:k=n:=by omega
    go_wp2;go_ret;exact⟨ret_bool (by rw[HF.out,HO.out.1, <-HO.out.2];rfl),hnx⟩
theorem rings_one{w:World}{B:Nat}{ri:Option Addr}{l:List Pt}(ci:Nat)(t:TypeId)(h:RingAt w B ri l)(hB:B<=w.heap.size):
  RingsAt (w.alloc (.cells #[.slice ri l.length ci] t)) (w.heap.size+1) (some ⟨w.heap.size,0,none⟩) [l]:=by
 intro _;refine⟨w.heap.size,0,rfl,by omega,fun i hi=>?_⟩;obtain rfl:i=0:=by simpa using hi
 refine⟨ri,ci,?_,?_⟩
 ·rw[cell_of_row _ w.heap.size _ _ t (0,0) (heap_new w _ _ rfl)];rfl
 ·intro h0
  obtain⟨b,off,e,hlt,hc⟩:=(h.below (br.alloc lr (.cells #[.slice ri l.length ci] t)) hB) h0;exact⟨b,off,e,by omega,hc⟩
end
end Go.Proofs.YtpkoapmpknbgoaaGreat.Po
