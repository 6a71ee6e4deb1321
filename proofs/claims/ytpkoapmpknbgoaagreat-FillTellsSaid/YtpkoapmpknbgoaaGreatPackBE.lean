/- Joined: Lex7, Lex8, NfA, NfB, WdW, WdN, WdG: contracts and plain laws, each with its own heading below. -/
import Derived.Test.YtpkoapmpknbgoaaGreatPackBD
import Derived.StillTail
import Derived.RegionTactic
import Derived.Test.YtpkoapmpknbgoaaGreatPackBC
import Derived.Laws.BitsAllLaws
import Derived.StillTailTactics
set_option maxRecDepth 100000
set_option maxHeartbeats 8000000
namespace Go.Proofs.YtpkoapmpknbgoaaGreat
section
open Go
section
variable {P : Program} {ops : Array Oper}
def endB(ops:Array Oper)(n:Nat):Bool:=
 decide (n<=ops.size)&&((List.range ops.size).all fun t=>decide (t<n)||(List.range n).all fun i=>((waits ops.toList []).getD t 0).testBit i)&&
 Region.seqB .any ops (ops.size-n) n (Array.replicate n true++Array.replicate (ops.size-n) false)
theorem arr_cut{listed:Array Bool}{n s:Nat}(hs:listed.size=s)(hn:n<=s)(h1:∀i,i<n->listed.getD i false=true)(h2:∀i,n<=i->listed.getD i false=false):listed=Array.replicate n true++Array.replicate (s-n) false:=by
 apply Array.ext
 ·simp;omega
 ·intro i hi hi2
  rcases Nat.lt_or_ge i n with h|h
  ·have:=h1 i h
   rw[Array.getElem_append_left (by simpa using h)];simp[hi]at this ⊢;exact this
  ·have:=h2 i h
   rw[Array.getElem_append_right (by simpa using h)];simp[hi]at this ⊢;exact this
theorem inv_end{l:List Oper}{n:Nat}{Q:Exit->Act->World->Prop}{G:World->World->Prop}{w0:World}{R:Nat->Value->World->Prop}{a0:Act}(hB:invB l.toArray=true)(hE:endB l.toArray n=true)
  (Gt:∀w w1 w2,G w w1->G w1 w2->G w w2) (mono:∀i v w w',G w0 w->G w w'->R i v w->R i v w')
  (h:invList P l.toArray G w0 R (fun a w=>wpList P l.toArray (Only (Q .normal)) (l.drop n) a w) (l.take n) [] a0):
  ∀(fuel:Nat) (listed:Array Bool) (V:Nat->Value) (w:World),listed.size=l.length->Closed l.toArray listed->(∀ t,n<=t->listed.getD t false=false)->G w0 w->(∀ j,listed.getD j false=true->R j (V j) w)->
  (rem l.toArray listed).length=fuel->wpAny P .any l.toArray (Only (Q .normal)) fuel listed (fillD (fun j=>listed.getD j false) V (l.take n) 0 a0) w:=by
 unfold invB at hB;simp only[Bool.and_eq_true,List.all_eq_true,List.mem_range]at hB;obtain⟨hsel,hB⟩:=hB;have hB':∀i oi,l.toArray[i]? =some oi->_:=fun i oi hi=>by
  have:=hB i (Array.getElem?_eq_some_iff.1 hi).1;simp only[hi,Bool.and_eq_true,List.all_eq_true,List.mem_range]at this;exact this
 have hback:∀i oi,l.toArray[i]? =some oi->∀e∈oi.after,Region.binds .any e=true->e.on<i:=fun i oi hi e he hb=>by
  have:=(hB' i oi hi).1 e (by simpa using he);simpa[hb]using this
 have htr:Truth l.toArray (waits l.toArray.toList []):=waits_truth hback l.toArray.toList [] (fun j=>by simp) (fun i t hi=>by simp at hi);have hlen:(waits l.toArray.toList []).length=l.length:=by rw[waits_length];simp
 unfold endB at hE;simp only[Bool.and_eq_true,decide_eq_true_eq,List.all_eq_true,List.mem_range,Bool.or_eq_true]at hE;obtain⟨⟨hn,hw⟩,hsq⟩:=hE;have hnl:n<=l.length:=by simpa using hn
 have htl:(l.take n).length=n:=by rw[List.length_take];omega
 have hend:∀(listed:Array Bool) (V:Nat->Value) (w:World),listed.size=l.length->(∀ i,i<n->listed.getD i false=true)->(∀ t,n<=t->listed.getD t false=false)->G w0 w->(∀ j,listed.getD j false=true->R j (V j) w)->
   wpAny P .any l.toArray (Only (Q .normal)) (l.length-n) listed (fillD (fun j=>listed.getD j false) V (l.take n) 0 a0) w:=fun listed V w hs hd hd2 hg hr=>by
  have h1:=(inv_at V (l.take n) 0 a0 h).2 w hg fun j hj=>hr j (hd j (by rw[htl]at hj;omega))
  rw[fill_congr _ (fun _=>true) V V (l.take n) 0 a0 fun j _ hj=>⟨hd j (by rw[htl]at hj;omega),fun _=>rfl⟩];have h2:=wpAny_of_seq (md:=.any) (Q':=Only (Q .normal)) (l.drop n) n listed _ w (fun j=>by simp[List.getElem?_drop]) (by
   rw[arr_cut hs hnl hd hd2];simpa using hsq) h1
  simpa using h2
 have hfro:∀(listed:Array Bool),Closed l.toArray listed->∀i,i∈Region.ready .any l.toArray listed->n<=i->∀k,k<n->listed.getD k false=true:=fun listed hcl i hi hni k hk=>by
  obtain⟨hun,o,ho,hdone⟩:=mem_ready.1 hi;have hlt:i<l.toArray.size:=(Array.getElem?_eq_some_iff.1 ho).1;have h1:=(hw i hlt).resolve_left (by omega) k hk;exact htr.listed hcl i o k (by rw[hlen];simpa using hlt) ho (fun e he hb=>hdone e he hb) h1
 intro fuel
 induction fuel with
 |zero=>
  intro listed V w hs hcl hta hg hr hf;have hnil:rem l.toArray listed=[]:=List.eq_nil_of_length_eq_zero (by omega);have hd:∀i,i<l.length->listed.getD i false=true:=fun i hi=>by
   by_cases hd:listed.getD i false=true
   ·exact hd
   ·exfalso
    have:i∈rem l.toArray listed:=mem_rem.2 ⟨by simpa using hi,by
     have:i<listed.size:=by omega
     simp[this]at hd ⊢;exact hd⟩
    rw[hnil]at this;cases this
  have hnn:n=l.length:=by
   rcases Nat.lt_or_ge n l.length with h1|h1
   ·have h2:=hd n h1
    rw[hta n (Nat.le_refl n)]at h2;cases h2
   ·omega
  have:=hend listed V w hs (fun i hi=>hd i (by omega)) hta hg hr;rw[show l.length-n=0 by omega]at this;exact this
 |succ fuel ih=>
  intro listed V w hs hcl hta hg hr hf;by_cases hfull:∀i,i<n->listed.getD i false=true
  ·have hrem:(rem l.toArray listed).length=l.length-n:=by
    have e:=arr_cut hs hnl hfull hta;have e2:rem l.toArray listed=(List.range l.length).filter fun j=>decide (n<=j):=by
     unfold rem;rw[show l.toArray.size=l.length by simp];refine List.filter_congr fun j hj=>?_
     have hj':j<l.length:=by simpa using hj
     rcases Nat.lt_or_ge j n with h1|h1
     ·rw[decide_eq_false (by omega)]
      have h3:=hfull j h1;have h4:j<listed.size:=by omega
      simp[h4]at h3 ⊢;exact h3
     ·rw[decide_eq_true h1]
      have h3:=hta j h1;have h4:j<listed.size:=by omega
      simp[h4]at h3 ⊢;exact h3
    rw[e2];clear e e2 hf;have:∀m,n<=m->((List.range m).filter fun j=>decide (n<=j)).length=m-n:=by
     intro m hm;obtain⟨d,rfl⟩:∃d,m=n+d:=⟨m-n,by omega⟩;clear hm
     induction d with
     |zero=>
      rw[List.filter_eq_nil_iff.2 fun j hj=>by have:=List.mem_range.1 hj;simp;omega];simp
     |succ d ih=>rw[<- Nat.add_assoc,List.range_succ,List.filter_append,List.length_append,ih];simp;omega
    exact this _ hnl
   have:=hend listed V w hs hfull hta hg hr;rw[<- hrem,hf]at this;exact this
  have hir:∀i,i∈Region.ready .any l.toArray listed->i<n:=fun i hi=>by
   rcases Nat.lt_or_ge i n with h1|h1
   ·exact h1
   ·exact absurd (hfro listed hcl i hi h1) hfull
  refine⟨fun hrd=>?_,fun i hi=>?_⟩
  ·exfalso
   exact hfull fun i hi=>rem_nil hback listed (by simpa using hs) hrd i (by rw[show l.toArray.size=l.length by simp];omega)
  have hin:=hir i hi;obtain⟨hun,o,ho,hdone⟩:=mem_ready.1 hi;have hlt:i<l.toArray.size:=(Array.getElem?_eq_some_iff.1 ho).1;have hltl:i<l.length:=by simpa using hlt
  have hlis:i<listed.size:=by omega
  have hun':listed.getD i false=false:=by simp[hlis]at hun ⊢;exact hun
  have hol:(l.take n)[i]? =some o:=by rw[List.getElem?_take_of_lt hin];simpa using ho
  have hst:=(inv_at V (l.take n) 0 a0 h).1 i o hol w hg fun j hj hn=>by
   refine hr j ?_;unfold needs at hn;simp only[List.any_eq_true,Bool.and_eq_true,beq_iff_eq]at hn;obtain⟨e,he,hb,rfl⟩:=hn;exact hdone e (by simpa using he) hb
  rw[Nat.zero_add]at hst;have hsel':∀cs b,o.op≠ .select cs b:=by
   intro cs b hc;unfold Region.noSelect at hsel;simp only[Array.all_eq_true]at hsel;have:=hsel i (by simpa using hlt);rw[(Array.getElem?_eq_some_iff.1 ho).2]at this;rw[hc]at this;simp at this
  have hsv:=stepV_congr (a:=fillD (fun j=>listed.getD j false) V (l.take n) 0 a0) hsel' (by rw[fill_size,fill_size]) (fun d hd=>?_) (stepV_of_list hst)
  ·refine stepV_wpOp ho ?_ hsv
   rintro v w' ⟨hgw,hR⟩;rw[fill_take (fun j=>listed.getD j false) V v (l.take n) 0 a0 i o hol (by rw[Nat.zero_add];exact hun') fun q o' hq hne d hd1 hd2=>by
    have hqn:q<n:=by have:=(List.getElem?_eq_some_iff.1 hq).1;rw[htl]at this;exact this
    rw[List.getElem?_take_of_lt hqn]at hq;have h1:=(hB' i o ho).2 q (by have:=(List.getElem?_eq_some_iff.1 hq).1;simpa using this);have hq':l.toArray[q]? =some o':=by simpa using hq
    simp[hne,hq',hd2,hd1]at h1]
   have hcl':=hcl.set hi;have e:(fun j=>if j=0+i then true else listed.getD j false)=fun j=>(listed.setIfInBounds i true).getD j false:=by
    funext j
    rw[Nat.zero_add];by_cases hj:j=i
    ·subst hj;simp[hlis]
    ·rw[if_neg hj,getD_set_ne false (fun e=>hj e.symm)]
   rw[e];refine ih _ _ w' (by simpa using hs) hcl' (fun t ht=>by rw[getD_set_ne false (by omega)];exact hta t ht) (Gt _ _ _ hg hgw) (fun j hj=>?_) ?_
   ·rw[Nat.zero_add]
    by_cases hji:j=i
    ·subst hji;rw[if_pos rfl];exact hR
    ·rw[if_neg hji]
     rw[getD_set_ne false (fun e=>hji e.symm)]at hj;exact mono j _ w w' hg hgw (hr j hj)
   ·obtain⟨τ,ρ,e1,e2,_⟩:=rem_split (by simpa using hs) (mem_rem.2 ⟨hlt,hun⟩)
    rw[e2];rw[e1]at hf;simp only[List.length_append,List.length_cons]at hf ⊢;omega
  ·refine fill_at _ _ V d (l.take n) 0 a0 a0 rfl rfl fun q o' hq hod=>?_
   rw[Nat.zero_add];have hqn:q<n:=by have:=(List.getElem?_eq_some_iff.1 hq).1;rw[htl]at this;exact this
   rw[List.getElem?_take_of_lt hqn]at hq;have hq':l.toArray[q]? =some o':=by simpa using hq
   have hql:q<l.length:=(List.getElem?_eq_some_iff.1 hq).1;by_cases hqi:q=i
   ·subst hqi;rw[hun'];simp
   ·have h1:=(hB' i o ho).2 q (by simpa using hql)
    have hdc:(o.looksAt l.toArray).contains d=true:=by simpa using hd
    simp only[hqi,beq_iff_eq,hq',Option.bind_some,hod,hdc,Bool.not_true,Bool.false_or,Bool.or_eq_true,Bool.and_eq_true,decide_eq_true_eq,false_or]at h1;rcases h1.2 with⟨h2,h3⟩|⟨h2,h3⟩
    ·rw[decide_eq_true h2]
     unfold needs at h3;simp only[List.any_eq_true,Bool.and_eq_true,beq_iff_eq]at h3;obtain⟨e,he,hb,rfl⟩:=h3;exact hdone e (by simpa using he) hb
    ·rw[decide_eq_false (by omega)]
     by_cases hqd:listed.getD q false=true
     ·exfalso
      have:=htr.listed hcl q o' i (by omega) hq' (fun e he hb=>hcl q o' hq' hqd e he hb) h3;rw[hun']at this;cases this
     ·simpa using hqd
theorem only_done{K:Act->World->Prop}{a:Act}{w:World}(h:K a w):Only K .normal a w:=h
theorem wp_region_end{id:Nat}{l:List Oper}{Q:Exit->Act->World->Prop}{a:Act}{w:World}(n:Nat)(G:World->World->Prop)(R:Nat->Value->World->Prop)(hm:P.follows .mixedOrders=true)(hB:invB l.toArray=true)(hE:endB l.toArray n=true)
  (Gr:∀w,G w w) (Gt:∀w w1 w2,G w w1->G w1 w2->G w w2) (mono:∀i v w1 w2,G w.drew w1->G w1 w2->R i v w1->R i v w2)
  (h:invList P l.toArray G w.drew R (fun a w=>wpList P l.toArray (Only (Q .normal)) (l.drop n) a w) (l.take n) [] a):(Code.region id l.toArray true).wp P Q a w:=by
 refine Code.wp_mono (Q:=Only (Q .normal)) (fun e a w hq=>by cases e <;> first|exact hq|exact hq.elim) ?_;refine wp_region_any hm ?_;have h0:=inv_end hB hE Gt mono h l.toArray.size (Array.replicate l.toArray.size false) (fun _=>undef) w.drew (by simp) (fun j oj _ hl=>by rw[getD_replicate0]at hl;cases hl) (fun t _=>getD_replicate0 _ _) (Gr _) (fun j hj=>by rw[getD_replicate0]at hj;cases hj) ?_
 ·rw[fill_none]at h0
  ·exact h0
  ·intro j _;exact getD_replicate0 _ _
 ·unfold rem
  rw[List.filter_eq_self.2 fun j hj=>by have:=List.mem_range.1 hj;simp at this;simp[this]];simp
end
section
variable {P : Program} {ops : Array Oper}
def lateB(ops:Array Oper)(n:Nat):Bool:=
 decide (n<=ops.size)&&((List.range ops.size).all fun t=>decide (t<n)||(List.range n).all fun i=>((waits ops.toList []).getD t 0).testBit i)
theorem inv_part{l:List Oper}{n:Nat}{Q:Exit->Act->World->Prop}{G:World->World->Prop}{w0:World}{R:Nat->Value->World->Prop}{a0:Act}(hB:invB l.toArray=true)(hE:lateB l.toArray n=true)
  (Gt:∀w w1 w2,G w w1->G w1 w2->G w w2) (mono:∀i v w w',G w0 w->G w w'->R i v w->R i v w')
  (h:invList P l.toArray G w0 R (fun a w=>wpAny P .any l.toArray (Only (Q .normal)) (l.length-n) (Array.replicate n true++Array.replicate (l.length-n) false) a w) (l.take n) [] a0):
  ∀(fuel:Nat) (listed:Array Bool) (V:Nat->Value) (w:World),listed.size=l.length->Closed l.toArray listed->(∀ t,n<=t->listed.getD t false=false)->G w0 w->(∀ j,listed.getD j false=true->R j (V j) w)->
  (rem l.toArray listed).length=fuel->wpAny P .any l.toArray (Only (Q .normal)) fuel listed (fillD (fun j=>listed.getD j false) V (l.take n) 0 a0) w:=by
 unfold invB at hB;simp only[Bool.and_eq_true,List.all_eq_true,List.mem_range]at hB;obtain⟨hsel,hB⟩:=hB;have hB':∀i oi,l.toArray[i]? =some oi->_:=fun i oi hi=>by
  have:=hB i (Array.getElem?_eq_some_iff.1 hi).1;simp only[hi,Bool.and_eq_true,List.all_eq_true,List.mem_range]at this;exact this
 have hback:∀i oi,l.toArray[i]? =some oi->∀e∈oi.after,Region.binds .any e=true->e.on<i:=fun i oi hi e he hb=>by
  have:=(hB' i oi hi).1 e (by simpa using he);simpa[hb]using this
 have htr:Truth l.toArray (waits l.toArray.toList []):=waits_truth hback l.toArray.toList [] (fun j=>by simp) (fun i t hi=>by simp at hi);have hlen:(waits l.toArray.toList []).length=l.length:=by rw[waits_length];simp
 unfold lateB at hE;simp only[Bool.and_eq_true,decide_eq_true_eq,List.all_eq_true,List.mem_range,Bool.or_eq_true]at hE;obtain⟨hn,hw⟩:=hE;have hnl:n<=l.length:=by simpa using hn
 have htl:(l.take n).length=n:=by rw[List.length_take];omega
 have hend:∀(listed:Array Bool) (V:Nat->Value) (w:World),listed.size=l.length->(∀ i,i<n->listed.getD i false=true)->(∀ t,n<=t->listed.getD t false=false)->G w0 w->(∀ j,listed.getD j false=true->R j (V j) w)->
   wpAny P .any l.toArray (Only (Q .normal)) (l.length-n) listed (fillD (fun j=>listed.getD j false) V (l.take n) 0 a0) w:=fun listed V w hs hd hd2 hg hr=>by
  have h1:=(inv_at V (l.take n) 0 a0 h).2 w hg fun j hj=>hr j (hd j (by rw[htl]at hj;omega))
  rw[fill_congr _ (fun _=>true) V V (l.take n) 0 a0 fun j _ hj=>⟨hd j (by rw[htl]at hj;omega),fun _=>rfl⟩,arr_cut hs hnl hd hd2];exact h1
 have hfro:∀(listed:Array Bool),Closed l.toArray listed->∀i,i∈Region.ready .any l.toArray listed->n<=i->∀k,k<n->listed.getD k false=true:=fun listed hcl i hi hni k hk=>by
  obtain⟨hun,o,ho,hdone⟩:=mem_ready.1 hi;have hlt:i<l.toArray.size:=(Array.getElem?_eq_some_iff.1 ho).1;have h1:=(hw i hlt).resolve_left (by omega) k hk;exact htr.listed hcl i o k (by rw[hlen];simpa using hlt) ho (fun e he hb=>hdone e he hb) h1
 intro fuel
 induction fuel with
 |zero=>
  intro listed V w hs hcl hta hg hr hf;have hnil:rem l.toArray listed=[]:=List.eq_nil_of_length_eq_zero (by omega);have hd:∀i,i<l.length->listed.getD i false=true:=fun i hi=>by
   by_cases hd:listed.getD i false=true
   ·exact hd
   ·exfalso
    have:i∈rem l.toArray listed:=mem_rem.2 ⟨by simpa using hi,by
     have:i<listed.size:=by omega
     simp[this]at hd ⊢;exact hd⟩
    rw[hnil]at this;cases this
  have hnn:n=l.length:=by
   rcases Nat.lt_or_ge n l.length with h1|h1
   ·have h2:=hd n h1
    rw[hta n (Nat.le_refl n)]at h2;cases h2
   ·omega
  have:=hend listed V w hs (fun i hi=>hd i (by omega)) hta hg hr;rw[show l.length-n=0 by omega]at this;exact this
 |succ fuel ih=>
  intro listed V w hs hcl hta hg hr hf;by_cases hfull:∀i,i<n->listed.getD i false=true
  ·have hrem:(rem l.toArray listed).length=l.length-n:=by
    have e:=arr_cut hs hnl hfull hta;have e2:rem l.toArray listed=(List.range l.length).filter fun j=>decide (n<=j):=by
     unfold rem;rw[show l.toArray.size=l.length by simp];refine List.filter_congr fun j hj=>?_
     have hj':j<l.length:=by simpa using hj
     rcases Nat.lt_or_ge j n with h1|h1
     ·rw[decide_eq_false (by omega)]
      have h3:=hfull j h1;have h4:j<listed.size:=by omega
      simp[h4]at h3 ⊢;exact h3
     ·rw[decide_eq_true h1]
      have h3:=hta j h1;have h4:j<listed.size:=by omega
      simp[h4]at h3 ⊢;exact h3
    rw[e2];clear e e2 hf;have:∀m,n<=m->((List.range m).filter fun j=>decide (n<=j)).length=m-n:=by
     intro m hm;obtain⟨d,rfl⟩:∃d,m=n+d:=⟨m-n,by omega⟩;clear hm
     induction d with
     |zero=>
      rw[List.filter_eq_nil_iff.2 fun j hj=>by have:=List.mem_range.1 hj;simp;omega];simp
     |succ d ih=>rw[<- Nat.add_assoc,List.range_succ,List.filter_append,List.length_append,ih];simp;omega
    exact this _ hnl
   have:=hend listed V w hs hfull hta hg hr;rw[<- hrem,hf]at this;exact this
  have hir:∀i,i∈Region.ready .any l.toArray listed->i<n:=fun i hi=>by
   rcases Nat.lt_or_ge i n with h1|h1
   ·exact h1
   ·exact absurd (hfro listed hcl i hi h1) hfull
  refine⟨fun hrd=>?_,fun i hi=>?_⟩
  ·exfalso
   exact hfull fun i hi=>rem_nil hback listed (by simpa using hs) hrd i (by rw[show l.toArray.size=l.length by simp];omega)
  have hin:=hir i hi;obtain⟨hun,o,ho,hdone⟩:=mem_ready.1 hi;have hlt:i<l.toArray.size:=(Array.getElem?_eq_some_iff.1 ho).1;have hltl:i<l.length:=by simpa using hlt
  have hlis:i<listed.size:=by omega
  have hun':listed.getD i false=false:=by simp[hlis]at hun ⊢;exact hun
  have hol:(l.take n)[i]? =some o:=by rw[List.getElem?_take_of_lt hin];simpa using ho
  have hst:=(inv_at V (l.take n) 0 a0 h).1 i o hol w hg fun j hj hn=>by
   refine hr j ?_;unfold needs at hn;simp only[List.any_eq_true,Bool.and_eq_true,beq_iff_eq]at hn;obtain⟨e,he,hb,rfl⟩:=hn;exact hdone e (by simpa using he) hb
  rw[Nat.zero_add]at hst;have hsel':∀cs b,o.op≠ .select cs b:=by
   intro cs b hc;unfold Region.noSelect at hsel;simp only[Array.all_eq_true]at hsel;have:=hsel i (by simpa using hlt);rw[(Array.getElem?_eq_some_iff.1 ho).2]at this;rw[hc]at this;simp at this
  have hsv:=stepV_congr (a:=fillD (fun j=>listed.getD j false) V (l.take n) 0 a0) hsel' (by rw[fill_size,fill_size]) (fun d hd=>?_) (stepV_of_list hst)
  ·refine stepV_wpOp ho ?_ hsv
   rintro v w' ⟨hgw,hR⟩;rw[fill_take (fun j=>listed.getD j false) V v (l.take n) 0 a0 i o hol (by rw[Nat.zero_add];exact hun') fun q o' hq hne d hd1 hd2=>by
    have hqn:q<n:=by have:=(List.getElem?_eq_some_iff.1 hq).1;rw[htl]at this;exact this
    rw[List.getElem?_take_of_lt hqn]at hq;have h1:=(hB' i o ho).2 q (by have:=(List.getElem?_eq_some_iff.1 hq).1;simpa using this);have hq':l.toArray[q]? =some o':=by simpa using hq
    simp[hne,hq',hd2,hd1]at h1]
   have hcl':=hcl.set hi;have e:(fun j=>if j=0+i then true else listed.getD j false)=fun j=>(listed.setIfInBounds i true).getD j false:=by
    funext j
    rw[Nat.zero_add];by_cases hj:j=i
    ·subst hj;simp[hlis]
    ·rw[if_neg hj,getD_set_ne false (fun e=>hj e.symm)]
   rw[e];refine ih _ _ w' (by simpa using hs) hcl' (fun t ht=>by rw[getD_set_ne false (by omega)];exact hta t ht) (Gt _ _ _ hg hgw) (fun j hj=>?_) ?_
   ·rw[Nat.zero_add]
    by_cases hji:j=i
    ·subst hji;rw[if_pos rfl];exact hR
    ·rw[if_neg hji]
     rw[getD_set_ne false (fun e=>hji e.symm)]at hj;exact mono j _ w w' hg hgw (hr j hj)
   ·obtain⟨τ,ρ,e1,e2,_⟩:=rem_split (by simpa using hs) (mem_rem.2 ⟨hlt,hun⟩)
    rw[e2];rw[e1]at hf;simp only[List.length_append,List.length_cons]at hf ⊢;omega
  ·refine fill_at _ _ V d (l.take n) 0 a0 a0 rfl rfl fun q o' hq hod=>?_
   rw[Nat.zero_add];have hqn:q<n:=by have:=(List.getElem?_eq_some_iff.1 hq).1;rw[htl]at this;exact this
   rw[List.getElem?_take_of_lt hqn]at hq;have hq':l.toArray[q]? =some o':=by simpa using hq
   have hql:q<l.length:=(List.getElem?_eq_some_iff.1 hq).1;by_cases hqi:q=i
   ·subst hqi;rw[hun'];simp
   ·have h1:=(hB' i o ho).2 q (by simpa using hql)
    have hdc:(o.looksAt l.toArray).contains d=true:=by simpa using hd
    simp only[hqi,beq_iff_eq,hq',Option.bind_some,hod,hdc,Bool.not_true,Bool.false_or,Bool.or_eq_true,Bool.and_eq_true,decide_eq_true_eq,false_or]at h1;rcases h1.2 with⟨h2,h3⟩|⟨h2,h3⟩
    ·rw[decide_eq_true h2]
     unfold needs at h3;simp only[List.any_eq_true,Bool.and_eq_true,beq_iff_eq]at h3;obtain⟨e,he,hb,rfl⟩:=h3;exact hdone e (by simpa using he) hb
    ·rw[decide_eq_false (by omega)]
     by_cases hqd:listed.getD q false=true
     ·exfalso
      have:=htr.listed hcl q o' i (by omega) hq' (fun e he hb=>hcl q o' hq' hqd e he hb) h3;rw[hun']at this;cases this
     ·simpa using hqd
theorem wp_region_part{id:Nat}{l:List Oper}{Q:Exit->Act->World->Prop}{a:Act}{w:World}(n m:Nat)(L:Array Bool)(G:World->World->Prop)(R:Nat->Value->World->Prop)(hnm:l.length=n+m)(hL:L=Array.replicate n true++Array.replicate m false)(hm:P.follows .mixedOrders=true)(hB:invB l.toArray=true)(hE:lateB l.toArray n=true)
  (Gr:∀w,G w w) (Gt:∀w w1 w2,G w w1->G w1 w2->G w w2) (mono:∀i v w1 w2,G w.drew w1->G w1 w2->R i v w1->R i v w2)
  (h:invList P l.toArray G w.drew R (fun a w=>wpAny P .any l.toArray (Only (Q .normal)) m L a w) (l.take n) [] a):(Code.region id l.toArray true).wp P Q a w:=by
 refine Code.wp_mono (Q:=Only (Q .normal)) (fun e a w hq=>by cases e <;> first|exact hq|exact hq.elim) ?_;refine wp_region_any hm ?_;subst hL;obtain rfl:m=l.length-n:=by omega
 have h0:=inv_part hB hE Gt mono h l.toArray.size (Array.replicate l.toArray.size false) (fun _=>undef) w.drew (by simp) (fun j oj _ hl=>by rw[getD_replicate0]at hl;cases hl) (fun t _=>getD_replicate0 _ _) (Gr _) (fun j hj=>by rw[getD_replicate0]at hj;cases hj) ?_
 ·rw[fill_none]at h0
  ·exact h0
  ·intro j _;exact getD_replicate0 _ _
 ·unfold rem
  rw[List.filter_eq_self.2 fun j hj=>by have:=List.mem_range.1 hj;simp at this;simp[this]];simp
end
end
section
open Go.RowKit Go.Lib Wd
def uH(A:Int):Int:=A%340282366920938463463374607431768211456/18446744073709551616
def uL(A:Int):Int:=A%18446744073709551616
abbrev vU(A:Int):Value:=.agg #[.int .u64 (uH A),.int .u64 (uL A)]
theorem rep_of(A:Int):Rep (uH A).toNat (uL A).toNat A/\((uH A).toNat:Int)=uH A/\((uL A).toNat:Int)=uL A:=by
 unfold uH uL;exact⟨⟨by omega,by omega,by omega⟩,by omega,by omega⟩
theorem Rep.eq{h l:Nat}{A:Int}(hr:Rep h l A):(h:Int)=uH A/\(l:Int)=uL A:=by
 obtain⟨h1,h2,h3⟩:=hr;unfold uH uL;exact⟨by omega,by omega⟩
theorem times_x(a b:Int)(ha: -9223372036854775808<=a/\a<=9223372036854775807)(hb: -9223372036854775808<=b/\b<=9223372036854775807)(w:World):
  Calls Tryz.prog 16 #[.int .i64 a,.int .i64 b] w fun e w'=>e=.returned (vU (a*b))/\Below w.heap.size w w':=
 (times_rep a b ha hb w).mono fun _ _ ⟨_,_,he,hr,hb⟩=>⟨by rw[he,hr.eq.1,hr.eq.2],hb⟩
theorem plus_x(A B:Int)(w:World):Calls Tryz.prog 75 #[vU A,vU B] w fun e w'=>e=.returned (vU (A+B))/\Below w.heap.size w w':=by
 obtain⟨r1,e1,e2⟩:=rep_of A;obtain⟨r2,e3,e4⟩:=rep_of B;have:=plus_rep r1 r2 w;rw[e1,e2,e3,e4]at this;exact this.mono fun _ _ ⟨_,_,he,hr,hb⟩=>⟨by rw[he,hr.eq.1,hr.eq.2],hb⟩
theorem turned_x(A:Int)(w:World):Calls Tryz.prog 40 #[vU A] w fun e w'=>e=.returned (vU (-A))/\Below w.heap.size w w':=by
 obtain⟨r1,e1,e2⟩:=rep_of A;have:=turned_rep r1 w;rw[e1,e2]at this;exact this.mono fun _ _ ⟨_,_,he,hr,hb⟩=>⟨by rw[he,hr.eq.1,hr.eq.2],hb⟩
theorem w_x(n:Int)(h1: -9223372036854775808<=n)(h2:n<=9223372036854775807)(w:World):Calls Tryz.prog 162 #[.int .i64 n] w fun e w'=>e=.returned (vU n)/\Below w.heap.size w w':=by
 have e1:IntKind.u64.wrap n=uL n:=by rw[IntKind.wrap_u64];rfl
 have e2:IntKind.u64.wrap (n/9223372036854775808)=uH n:=by rw[IntKind.wrap_u64];unfold uH;omega
 go_enter Tryz.func162,Tryz.ntmps162
 go_wp2;exact bodyPost_ret (v:=vU n) (by simp[results,Tryz.results162,go_sem]) rfl ⟨rfl,br.alloc lr _⟩
theorem small_x(A:Int)(hA: -4611686018427387904<=A/\A<=4611686018427387904)(w:World):Calls Tryz.prog 118 #[vU A] w fun e w'=>e=.returned (.tuple #[.int .i64 A,.bool true])/\Below w.heap.size w w':=by
 have e1:IntKind.i64.wrap (uL A)=A:=by rw[IntKind.wrap_i64];unfold uL;omega
 have HW:=Hd (w_x A (by omega) (by omega));simp only[vU]at *;generalize uH A=h at *;generalize uL A=l at*
 go_enter Tryz.func118,Tryz.ntmps118
 have hc:Hid (Two (w.alloc (.cells #[.int .u64 h,.int .u64 l] 45)) w.heap.size (.int .u64 h) (.int .u64 l)):=Two.of_row (t:=45) (f:=_) (heap_new _ _ _ rfl);have hB:Hid (Below w.heap.size w (w.alloc (.cells #[.int .u64 h,.int .u64 l] 45))):=br.alloc lr _;have hz:=World.size_alloc w (.cells #[.int .u64 h,.int .u64 l] 45)
 go_upto_region 2 with(fail)
 generalize w.alloc (.cells #[.int .u64 h,.int .u64 l] 45)=w2 at *;refine wp_region_inw ([.inl (.int .i64 A),.inl (.agg #[.int .u64 h,.int .u64 l]),.inl (.agg #[.int .u64 h,.int .u64 l]),.inl (.bool false)]:List Want) [] (by kernel_rfl) (by kernel_rfl) (by kernel_rfl) ?_;refine inw_cons (fun wx hg hd=>?_) (fun v0=>?_)
 ·have hx:=hxo w2 hg
  clear hd hg;go_wp2;exact⟨_,rfl,br,rfl⟩
 (try simp only[pq])
 refine inw_cons (fun wx hg hd=>?_) (fun v1=>?_)
 ·have hx:=hxo w2 hg
  (try(have ee:v0=(.int .i64 A:Value):=hd 0 (by simp) (by decide);subst ee))
  clear hd hg
  go_wp2_with fail
  refine(HW.out _).mono ?_;rintro e w' ⟨rfl,hb⟩;go_wp2;exact⟨_,rfl,hb,rfl⟩
 (try simp only[pq])
 refine inw_cons (fun wx hg hd=>?_) (fun v2=>?_)
 ·have hx:=hxo w2 hg
  clear hd hg;obtain⟨k1,k2⟩:=hc.out.later (by omega) hx;go_wp2;exact⟨_,rfl,br,rfl⟩
 (try simp only[pq])
 refine inw_cons (fun wx hg hd=>?_) (fun v3=>?_)
 ·have hx:=hxo w2 hg
  (try(have ee:v1=(.agg #[.int .u64 h,.int .u64 l]:Value):=hd 1 (by simp) (by decide);subst ee))
  (try(have ee:v2=(.agg #[.int .u64 h,.int .u64 l]:Value):=hd 2 (by simp) (by decide);subst ee))
  clear hd hg;go_wp2;exact⟨_,rfl,br,rfl⟩
 (try simp only[pq])
 refine inw_done (fun wx hg hd=>?_);have hx:=hxo w2 hg
 (have ee:v0=(.int .i64 A:Value):=hd 0 (by simp) (by kernel_rfl);subst ee)
 (have ee:v1=(.agg #[.int .u64 h,.int .u64 l]:Value):=hd 1 (by simp) (by kernel_rfl);subst ee)
 (have ee:v2=(.agg #[.int .u64 h,.int .u64 l]:Value):=hd 2 (by simp) (by kernel_rfl);subst ee)
 (have ee:v3=(.bool false:Value):=hd 3 (by simp) (by kernel_rfl);subst ee)
 clear hd hg
 (try go_simp)
 have HF:Hid (Below w.heap.size w wx):=hB.out.trans (hx.mono hB.out.size);clear hx;go_wp2;go_ret2;exact⟨rfl,HF.out⟩
theorem two_x(A B:Int)(hA: -4611686018427387904<=A/\A<=4611686018427387904)(hB: -4611686018427387904<=B/\B<=4611686018427387904)(w:World):
  Calls Tryz.prog 74 #[vU A,vU B] w fun e w'=>e=.returned (.tuple #[.agg #[.int .i64 A,.int .i64 B],.bool true])/\Below w.heap.size w w':=by
 have HA:=Hd (small_x A hA);have HB:=Hd (small_x B hB);simp only[vU]at *;generalize uH A=h at *;generalize uL A=l at *;generalize uH B=h2 at *;generalize uL B=l2 at *;clear hA hB
 go_enter Tryz.func74,Tryz.ntmps74
 go_wp2_with fail
 refine(HA.out _).mono ?_;rintro e w1 ⟨rfl,hb1⟩;have hz:=hb1.size;simp at hz;have u1:Two w1 (w.heap.size+1) (.int .u64 h2) (.int .u64 l2):=(Two.of_row (t:=45) (f:=_) (by rw[Below.heap_alloc _ _ _ (by simp)];exact heap_new _ _ _ (by simp))).later (by simp) hb1;have U2:Hid (Two2 w1 (w.heap.size+2) (.int .i64 0) (.int .i64 0)):=(Two2.of_row (t:=37) (heap_new _ _ _ (by simp))).later (by simp) hb1;have B1:Hid (Below w.heap.size w w1):=((br.alloc lr _).alloc (by simp) _).alloc (by simp;omega) _ |>.trans (hb1.mono (by simp;omega))
 obtain⟨k0,k1⟩:=u1;clear hb1
 go_wp2_with fail
 refine(HB.out _).mono ?_;rintro e w2 ⟨rfl,hb2⟩;obtain⟨⟨c0,c1⟩,f0,f1⟩:=U2.out.later (by omega) hb2;have B2:=Hd (B1.out.trans (hb2.mono B1.out.size));have hz2:=hb2.size;clear hb2 k0 k1;go_wp2;exact bodyPost_ret (v:=.tuple #[.agg #[.int .i64 A,.int .i64 B],.bool true]) (by simp[results,Tryz.results74,go_sem, *]) rfl ⟨rfl,(B2.out.setCell (p:=⟨w.heap.size+1+1,0,none⟩) (by simp;omega) _).setCell (p:=⟨w.heap.size+1+1,1,none⟩) (by simp;omega) _⟩
theorem runit_in(k:Nat)(hk:k<6)(w:World):
  Calls Tryz.prog 37 #[.int .i64 k] w fun e w'=>e=.returned (vE (unitE k))/\Below w.heap.size w w':=by
 have hu:(k=0/\unitE k=(1,0))∨(k=1/\unitE k=(0,1))∨(k=2/\unitE k=(-1,1))∨(k=3/\unitE k=(-1,0))∨(k=4/\unitE k=(0,-1))∨(k=5/\unitE k=(1,-1)):=by
  rcases(show k=0∨k=1∨k=2∨k=3∨k=4∨k=5 by omega)with rfl|rfl|rfl|rfl|rfl|rfl <;> simp[unitE]
 rcases hu with⟨rfl,e⟩|⟨rfl,e⟩|⟨rfl,e⟩|⟨rfl,e⟩|⟨rfl,e⟩|⟨rfl,e⟩ <;> rw[e] <;> clear e hk <;>
 ·go_enter Tryz.func37,Tryz.ntmps37
  go_wp2;exact bodyPost_ret (by simp[results,Tryz.results37,go_sem]) rfl ⟨rfl,by
   exact(br.alloc lr _).alloc (by simp) _⟩
theorem rmul_in(y z:E2)(hy:Sm 1152921504606846976 y)(hz:Sm 1152921504606846976 z)(h:Sm 4611686018427387904 (mulE y z))(w:World):
  Calls Tryz.prog 36 #[vE y,vE z] w fun e w'=>e=.returned (.tuple #[vE (mulE y z),.bool true])/\Below w.heap.size w w':=by
 obtain⟨a,b⟩:=y;obtain⟨c,d⟩:=z;unfold Sm mulE at *;simp only at hy hz h;have T1:=Hd (times_x a c (by omega) (by omega));have T2:=Hd (times_x b d (by omega) (by omega));have T3:=Hd (times_x a d (by omega) (by omega));have T4:=Hd (times_x b c (by omega) (by omega));have R1:=Hd (turned_x (b*d));have P1:=Hd (plus_x (a*c) (-(b*d)));have P2:=Hd (plus_x (a*d) (b*c));have P3:=Hd (plus_x (a*d+b*c) (b*d));rw[show a*c+ -(b*d)=a*c-b*d by omega]at P1;have W1:=Hd (two_x (a*c-b*d) (a*d+b*c+b*d) (by omega) (by omega));simp only[vE,vU]at *;clear hy hz h;generalize a*c-b*d=x at *;generalize a*d+b*c+b*d=y at *;generalize a*d+b*c=s at *;generalize a*d=ad at *;generalize b*c=bc at *;generalize a*c=ac at *;generalize b*d=bd at*
 go_enter Tryz.func36,Tryz.ntmps36
 go_wp2_with fail
 refine(T2.out _).mono ?_;rintro e w1 ⟨rfl,hb1⟩;have hz:=hb1.size;simp at hz;have h2:Two w1 w.heap.size (.int .i64 a) (.int .i64 b):=(Two.of_row (t:=37) (f:=_) (by rw[Below.heap_alloc _ _ _ (by simp;omega),Below.heap_alloc _ _ _ (by simp)];exact heap_new _ _ _ rfl)).later (by simp;omega) hb1;have h3:Two w1 (w.heap.size+1) (.int .i64 c) (.int .i64 d):=(Two.of_row (t:=37) (f:=_) (by rw[Below.heap_alloc _ _ _ (by simp)];exact heap_new _ _ _ (by simp))).later (by simp) hb1;have h5:Two2 w1 (w.heap.size+2) (.int .i64 0) (.int .i64 0):=(Two2.of_row (t:=37) (heap_new _ _ _ (by simp))).later (by simp) hb1;have hq:Below w.heap.size w w1:=((br.alloc lr _).alloc (by simp) _).alloc (by simp;omega) _ |>.trans (hb1.mono (by simp;omega))
 have h4:Two (w1.alloc (.cells #[.int .u64 (uH bd),.int .u64 (uL bd)] 45)) w1.heap.size (.int .u64 (uH bd)) (.int .u64 (uL bd)):=Two.of_row (f:=_) (heap_new _ _ _ rfl);have h2:=h2.alloc (by omega) (.cells #[.int .u64 (uH bd),.int .u64 (uL bd)] 45);have h3:=h3.alloc (by omega) (.cells #[.int .u64 (uH bd),.int .u64 (uL bd)] 45);have h5:=h5.alloc (by omega) (.cells #[.int .u64 (uH bd),.int .u64 (uL bd)] 45);have HQ:=Hd (hq.alloc (by omega) (.cells #[.int .u64 (uH bd),.int .u64 (uL bd)] 45));have hs:w1.heap.size<(w1.alloc (.cells #[.int .u64 (uH bd),.int .u64 (uL bd)] 45)).heap.size:=by simp
 go_upto_region 2 with(fail)
 generalize w1.alloc (.cells #[.int .u64 (uH bd),.int .u64 (uL bd)] 45)=w2 at *;have HC:Hid (∀ wx,Below w2.heap.size w2 wx->Two wx w.heap.size (.int .i64 a) (.int .i64 b)/\Two wx (w.heap.size+1) (.int .i64 c) (.int .i64 d)/\Two wx w1.heap.size (.int .u64 (uH bd)) (.int .u64 (uL bd))/\Two2 wx (w.heap.size+2) (.int .i64 0) (.int .i64 0)):=fun wx hx=>⟨h2.later (by omega) hx,h3.later (by omega) hx,h4.later (by omega) hx,h5.later (by omega) hx⟩
 have hsz2:w.heap.size+2<w2.heap.size:=by omega
 clear h2 h3 h4 h5 hb1 hq;refine wp_region_part 22 4 #[true,true,true,true,true,true,true,true,true,true,true,true,true,true,true,true,true,true,true,true,true,true,false,false,false,false] (fun w w'=>Below w.heap.size w w') (fun qi_ qv_ _=>qv_=([.pointer (some ⟨w.heap.size,0,none⟩),.int .i64 a,.pointer (some ⟨w.heap.size+1,0,none⟩),.int .i64 c,.agg #[.int .u64 (uH ac),.int .u64 (uL ac)],.agg #[.int .u64 (uH bd),.int .u64 (uL bd)],.agg #[.int .u64 (uH (-bd)),.int .u64 (uL (-bd))],.agg #[.int .u64 (uH x),.int .u64 (uL x)],.pointer (some ⟨w.heap.size,0,none⟩),.int .i64 a,.pointer (some ⟨w.heap.size+1,1,none⟩),.int .i64 d,.agg #[.int .u64 (uH ad),.int .u64 (uL ad)],.pointer (some ⟨w.heap.size,1,none⟩),.int .i64 b,.pointer (some ⟨w.heap.size+1,0,none⟩),.int .i64 c,.agg #[.int .u64 (uH bc),.int .u64 (uL bc)],.agg #[.int .u64 (uH s),.int .u64 (uL s)],.agg #[.int .u64 (uH bd),.int .u64 (uL bd)],.agg #[.int .u64 (uH y),.int .u64 (uL y)],.tuple #[.agg #[.int .i64 x,.int .i64 y],.bool true]]:List Value).getD qi_ undef) rfl rfl (by kernel_rfl) (by kernel_rfl) (by kernel_rfl) (fun _=>br) (fun _ _ _ h1 h2=>below_later h1 h1.size h2) (fun _ _ _ _ _ _ h=>h) ?_;simp only[List.take_succ_cons,List.take_zero];refine inv_cons (fun wx hg hd=>?_) (fun v0=>?_)
 ·have hx:=hxo w2 hg
  clear hd hg;go_wp2;exact⟨_,rfl,br,rfl⟩
 (try simp only[pq])
 refine inv_cons (fun wx hg hd=>?_) (fun v1=>?_)
 ·have hx:=hxo w2 hg
  (try cases gk 0 hd (by decide) rfl rfl)
  clear hd hg;obtain⟨⟨k1,k2⟩,⟨k3,k4⟩,⟨k5,k6⟩,_⟩:=HC.out _ hx;go_wp2;exact⟨_,rfl,br,rfl⟩
 (try simp only[pq])
 refine inv_cons (fun wx hg hd=>?_) (fun v2=>?_)
 ·have hx:=hxo w2 hg
  clear hd hg;go_wp2;exact⟨_,rfl,br,rfl⟩
 (try simp only[pq])
 refine inv_cons (fun wx hg hd=>?_) (fun v3=>?_)
 ·have hx:=hxo w2 hg
  (try cases gk 2 hd (by decide) rfl rfl)
  clear hd hg;obtain⟨⟨k1,k2⟩,⟨k3,k4⟩,⟨k5,k6⟩,_⟩:=HC.out _ hx;go_wp2;exact⟨_,rfl,br,rfl⟩
 (try simp only[pq])
 refine inv_cons (fun wx hg hd=>?_) (fun v4=>?_)
 ·have hx:=hxo w2 hg
  (try cases gk 1 hd (by decide) rfl rfl)
  (try cases gk 3 hd (by decide) rfl rfl)
  clear hd hg
  go_wp2_with fail
  refine(T1.out _).mono ?_;rintro e w' ⟨rfl,hb⟩;go_wp2;exact⟨_,rfl,hb,rfl⟩
 (try simp only[pq])
 refine inv_cons (fun wx hg hd=>?_) (fun v5=>?_)
 ·have hx:=hxo w2 hg
  clear hd hg;obtain⟨⟨k1,k2⟩,⟨k3,k4⟩,⟨k5,k6⟩,_⟩:=HC.out _ hx;go_wp2;exact⟨_,rfl,br,rfl⟩
 (try simp only[pq])
 refine inv_cons (fun wx hg hd=>?_) (fun v6=>?_)
 ·have hx:=hxo w2 hg
  (try cases gk 5 hd (by decide) rfl rfl)
  clear hd hg
  go_wp2_with fail
  refine(R1.out _).mono ?_;rintro e w' ⟨rfl,hb⟩;go_wp2;exact⟨_,rfl,hb,rfl⟩
 (try simp only[pq])
 refine inv_cons (fun wx hg hd=>?_) (fun v7=>?_)
 ·have hx:=hxo w2 hg
  (try cases gk 4 hd (by decide) rfl rfl)
  (try cases gk 6 hd (by decide) rfl rfl)
  clear hd hg
  go_wp2_with fail
  refine(P1.out _).mono ?_;rintro e w' ⟨rfl,hb⟩;go_wp2;exact⟨_,rfl,hb,rfl⟩
 (try simp only[pq])
 refine inv_cons (fun wx hg hd=>?_) (fun v8=>?_)
 ·have hx:=hxo w2 hg
  clear hd hg;go_wp2;exact⟨_,rfl,br,rfl⟩
 (try simp only[pq])
 refine inv_cons (fun wx hg hd=>?_) (fun v9=>?_)
 ·have hx:=hxo w2 hg
  (try cases gk 8 hd (by decide) rfl rfl)
  clear hd hg;obtain⟨⟨k1,k2⟩,⟨k3,k4⟩,⟨k5,k6⟩,_⟩:=HC.out _ hx;go_wp2;exact⟨_,rfl,br,rfl⟩
 (try simp only[pq])
 refine inv_cons (fun wx hg hd=>?_) (fun v10=>?_)
 ·have hx:=hxo w2 hg
  clear hd hg;go_wp2;exact⟨_,rfl,br,rfl⟩
 (try simp only[pq])
 refine inv_cons (fun wx hg hd=>?_) (fun v11=>?_)
 ·have hx:=hxo w2 hg
  (try cases gk 10 hd (by decide) rfl rfl)
  clear hd hg;obtain⟨⟨k1,k2⟩,⟨k3,k4⟩,⟨k5,k6⟩,_⟩:=HC.out _ hx;go_wp2;exact⟨_,rfl,br,rfl⟩
 (try simp only[pq])
 refine inv_cons (fun wx hg hd=>?_) (fun v12=>?_)
 ·have hx:=hxo w2 hg
  (try cases gk 9 hd (by decide) rfl rfl)
  (try cases gk 11 hd (by decide) rfl rfl)
  clear hd hg
  go_wp2_with fail
  refine(T3.out _).mono ?_;rintro e w' ⟨rfl,hb⟩;go_wp2;exact⟨_,rfl,hb,rfl⟩
 (try simp only[pq])
 refine inv_cons (fun wx hg hd=>?_) (fun v13=>?_)
 ·have hx:=hxo w2 hg
  clear hd hg;go_wp2;exact⟨_,rfl,br,rfl⟩
 (try simp only[pq])
 refine inv_cons (fun wx hg hd=>?_) (fun v14=>?_)
 ·have hx:=hxo w2 hg
  (try cases gk 13 hd (by decide) rfl rfl)
  clear hd hg;obtain⟨⟨k1,k2⟩,⟨k3,k4⟩,⟨k5,k6⟩,_⟩:=HC.out _ hx;go_wp2;exact⟨_,rfl,br,rfl⟩
 (try simp only[pq])
 refine inv_cons (fun wx hg hd=>?_) (fun v15=>?_)
 ·have hx:=hxo w2 hg
  clear hd hg;go_wp2;exact⟨_,rfl,br,rfl⟩
 (try simp only[pq])
 refine inv_cons (fun wx hg hd=>?_) (fun v16=>?_)
 ·have hx:=hxo w2 hg
  (try cases gk 15 hd (by decide) rfl rfl)
  clear hd hg;obtain⟨⟨k1,k2⟩,⟨k3,k4⟩,⟨k5,k6⟩,_⟩:=HC.out _ hx;go_wp2;exact⟨_,rfl,br,rfl⟩
 (try simp only[pq])
 refine inv_cons (fun wx hg hd=>?_) (fun v17=>?_)
 ·have hx:=hxo w2 hg
  (try cases gk 14 hd (by decide) rfl rfl)
  (try cases gk 16 hd (by decide) rfl rfl)
  clear hd hg
  go_wp2_with fail
  refine(T4.out _).mono ?_;rintro e w' ⟨rfl,hb⟩;go_wp2;exact⟨_,rfl,hb,rfl⟩
 (try simp only[pq])
 refine inv_cons (fun wx hg hd=>?_) (fun v18=>?_)
 ·have hx:=hxo w2 hg
  (try cases gk 12 hd (by decide) rfl rfl)
  (try cases gk 17 hd (by decide) rfl rfl)
  clear hd hg
  go_wp2_with fail
  refine(P2.out _).mono ?_;rintro e w' ⟨rfl,hb⟩;go_wp2;exact⟨_,rfl,hb,rfl⟩
 (try simp only[pq])
 refine inv_cons (fun wx hg hd=>?_) (fun v19=>?_)
 ·have hx:=hxo w2 hg
  clear hd hg;obtain⟨⟨k1,k2⟩,⟨k3,k4⟩,⟨k5,k6⟩,_⟩:=HC.out _ hx;go_wp2;exact⟨_,rfl,br,rfl⟩
 (try simp only[pq])
 refine inv_cons (fun wx hg hd=>?_) (fun v20=>?_)
 ·have hx:=hxo w2 hg
  (try cases gk 18 hd (by decide) rfl rfl)
  (try cases gk 19 hd (by decide) rfl rfl)
  clear hd hg
  go_wp2_with fail
  refine(P3.out _).mono ?_;rintro e w' ⟨rfl,hb⟩;go_wp2;exact⟨_,rfl,hb,rfl⟩
 (try simp only[pq])
 refine inv_cons (fun wx hg hd=>?_) (fun v21=>?_)
 ·have hx:=hxo w2 hg
  (try cases gk 7 hd (by decide) rfl rfl)
  (try cases gk 20 hd (by decide) rfl rfl)
  clear hd hg
  go_wp2_with fail
  refine(W1.out _).mono ?_;rintro e w' ⟨rfl,hb⟩;go_wp2;exact⟨_,rfl,hb,rfl⟩
 (try simp only[pq])
 refine inv_done (fun wx hg hd=>?_);have hx:=hxo w2 hg
 cases gl hd rfl
 clear hd hg;have HF:Hid (Below w.heap.size w wx):=HQ.out.trans (hx.mono HQ.out.size);obtain⟨-,-,-,⟨c0,c1⟩,f0,f1⟩:=HC.out _ hx;have hzx:=hx.size;clear hx HC;refine wpAny_take (i:=22) (v:=.agg #[.int .i64 x,.int .i64 y]) rfl (by kernel_rfl) (by kernel_rfl) (by kernel_rfl) (fun _ _ _ h=>h) (Or.inl ⟨by rfl,?_⟩) ?_
 ·intro w
  go_simp
 (try simp only[Act.put,List.setIfInBounds_toArray,List.set_cons_zero,List.set_cons_succ])
 refine wpAny_take (i:=23) (v:=.bool true) rfl (by kernel_rfl) (by kernel_rfl) (by kernel_rfl) (fun _ _ _ h=>h) (Or.inl ⟨by rfl,?_⟩) ?_
 ·intro w
  go_simp
 (try simp only[Act.put,List.setIfInBounds_toArray,List.set_cons_zero,List.set_cons_succ])
 refine wpAny_ready (rs:=[24]) (by kernel_rfl) (by simp) ?_;refine AllReady.cons rfl (fun K hK=>?_) AllReady.nil
 go_simp
 refine hK _ _ ?_;clear hK K;refine wpAny_ready (rs:=[25]) (by kernel_rfl) (by simp) ?_;refine AllReady.cons rfl (fun K hK=>?_) AllReady.nil
 go_simp
 refine hK _ _ ?_;clear hK K;refine wpAny_done (by kernel_rfl) ?_ _;refine only_done ?_;go_wp2;exact bodyPost_ret (v:=.tuple #[.agg #[.int .i64 x,.int .i64 y],.bool true]) (by simp[results,Tryz.results36,go_sem, *]) rfl ⟨rfl,(HF.out.setCell (p:=⟨w.heap.size+1+1,0,none⟩) (by simp;omega) _).setCell (p:=⟨w.heap.size+1+1,1,none⟩) (by simp;omega) _⟩
theorem rfloor_any(a d:Int)(hd:0<d)(hd2:d<=4611686018427387903)(h1: -4611686018427387904<=a)(h2:a<=4611686018427387903)(w:World):
  Calls Tryz.prog 167 #[.int .i64 a,.int .i64 d] w fun e w'=>e=.returned (.tuple #[.int .i64 (a/d),.int .i64 (a%d),.bool true])/\Below w.heap.size w w':=by
 have hb1:=Int.ediv_mul_le a (show d≠0 by omega);have q0:d≠0:=by omega
 have q9:d≠ -1:=by omega
 have hq: -4611686018427387905<=a.tdiv d/\a.tdiv d<=4611686018427387905:=by
  have:=Int.natAbs_tdiv_le_natAbs a d;omega
 obtain⟨hq1,hq2⟩:=hq;rcases floor_nums (a:=a) hd with⟨k1,k2,k3,k4,k5⟩|⟨k1,k2,k3⟩
 ·rw[<- k2, <-k3]
  clear k2 k3 hb1;generalize hx:a.tdiv d=x at *;generalize hy:a.tmod d=y at*
  go_enter Tryz.func167,Tryz.ntmps167
  go_upto_region 3 with(fail)
  go_quiet (fail)
  go_wp2
  go_ret3
  exact⟨rfl,below_drewN br _⟩
 ·rw[<- k2, <-k3]
  clear k2 k3 hb1;generalize hx:a.tdiv d=x at *;generalize hy:a.tmod d=y at*
  go_enter Tryz.func167,Tryz.ntmps167
  go_upto_region 3 with(fail)
  go_quiet (fail)
  go_wp2
  go_ret3
  exact⟨rfl,below_drewN br _⟩
theorem size_any(n:Int)(h1: -4611686018427387904<=n)(h2:n<=4611686018427387904)(w:World):Calls Tryz.prog 180 #[.int .i64 n] w fun e w'=>e=.returned (.int .i64 (n.natAbs:Int))/\w'=w:=by
 by_cases h:n<0
 ·have e:(n.natAbs:Int)= -n:=by omega
  rw[e];have q:decide (n<0)=true:=decide_eq_true h
  go_enter Tryz.func180,Tryz.ntmps180
  go_wp2;go_ret;exact⟨rfl,rfl⟩
 ·have e:(n.natAbs:Int)=n:=by omega
  rw[e];have q:decide (n<0)=false:=decide_eq_false h
  go_enter Tryz.func180,Tryz.ntmps180
  go_wp2;go_ret;exact⟨rfl,rfl⟩
theorem near_abs(s t d:Int):nearB s t d=(decide (((2*s+t).natAbs:Int)<=d)&&decide (((s+2*t).natAbs:Int)<=d)&&decide (((s-t).natAbs:Int)<=d)):=by
 unfold nearB;rw[Bool.eq_iff_iff];simp only[Bool.and_eq_true,decide_eq_true_eq];omega
theorem holds_any(s t d:Int)(hs: -9007199254740992<=s/\s<=9007199254740992)(ht: -9007199254740992<=t/\t<=9007199254740992)(w:World):
  Calls Tryz.prog 168 #[.int .i64 s,.int .i64 t,.int .i64 d] w fun e w'=>e=.returned (.bool (nearB s t d))/\w'=w:=by
 have S1:=Hd (size_any (2*s+t) (by omega) (by omega));have S2:=Hd (size_any (s+2*t) (by omega) (by omega));have S3:=Hd (size_any (s-t) (by omega) (by omega));rw[near_abs];generalize((2*s+t).natAbs:Int)=x1 at *;generalize((s+2*t).natAbs:Int)=x2 at *;generalize((s-t).natAbs:Int)=x3 at *;obtain⟨b1,hb1⟩:∃b,decide (x1<=d)=b:=⟨_,rfl⟩;obtain⟨b2,hb2⟩:∃b,decide (x2<=d)=b:=⟨_,rfl⟩;obtain⟨b3,hb3⟩:∃b,decide (x3<=d)=b:=⟨_,rfl⟩;rw[hb1,hb2,hb3];cases b1
 ·rw[Bool.false_and,Bool.false_and]
  go_enter Tryz.func168,Tryz.ntmps168
  go_wp2_with fail
  refine(S1.out _).mono ?_;rintro e w1 ⟨rfl,rfl⟩
  go_wp2_with fail
  go_ret;exact⟨rfl,rfl⟩
 ·rw[Bool.true_and]
  cases b2
  ·rw[Bool.false_and]
   go_enter Tryz.func168,Tryz.ntmps168
   go_wp2_with fail
   refine(S1.out _).mono ?_;rintro e w1 ⟨rfl,rfl⟩
   go_wp2_with fail
   refine(S2.out _).mono ?_;rintro e w1 ⟨rfl,rfl⟩
   go_wp2_with fail
   go_ret;exact⟨rfl,rfl⟩
  ·rw[Bool.true_and]
   go_enter Tryz.func168,Tryz.ntmps168
   go_wp2_with fail
   refine(S1.out _).mono ?_;rintro e w1 ⟨rfl,rfl⟩
   go_wp2_with fail
   refine(S2.out _).mono ?_;rintro e w1 ⟨rfl,rfl⟩
   go_wp2_with fail
   refine(S3.out _).mono ?_;rintro e w1 ⟨rfl,rfl⟩
   go_wp2_with fail
   go_ret;exact⟨rfl,rfl⟩
theorem corner_in(s t d:Int):0<=(cornerE s t d).1/\(cornerE s t d).1<=1/\0<=(cornerE s t d).2/\(cornerE s t d).2<=1:=by
 unfold cornerE
 (repeat' split) <;> simp
theorem times_small{i d:Int}(hd:0<d)(h1: -1<=i)(h2:i<=2): -d<=i*d/\i*d<=2*d:=by
 rcases(show i= -1∨i=0∨i=1∨i=2 by omega)with rfl|rfl|rfl|rfl <;> omega
theorem quot_in{a d:Int}(hd:1<=d)(hd2:d<=1125899906842624)(h1: -1152921504606846976<=a)(h2:a<=1152921504606846976): -1154047404513689600<=a/d/\a/d<=1152921504606846976:=by
 have h1:=Int.mul_ediv_add_emod a d;have h3:=Int.emod_nonneg a (show d≠0 by omega);have h4:=Int.emod_lt_of_pos a (show 0<d by omega);constructor
 ·rcases Int.lt_or_le (a/d) 0 with h|h
  ·have:=Int.mul_le_mul_of_nonpos_right (show(1:Int)<=d by omega) (show a/d<=0 by omega)
   omega
  ·omega
 ·rcases Int.lt_or_le (a/d) 0 with h|h
  ·omega
  ·have:=Int.mul_le_mul_of_nonneg_right (show(1:Int)<=d by omega) h
   omega
theorem rround_in(u:E2)(d:Int)(hd:1<=d)(hd2:d<=1125899906842624)(hu:Sm 1152921504606846976 u)(w:World):
  Calls Tryz.prog 131 #[vE u,.int .i64 d] w fun e w'=>e=.returned (.tuple #[vE (roundE u d),.bool true])/\Below w.heap.size w w':=by
 obtain⟨a,b⟩:=u;unfold Sm at hu;simp only at hu;obtain⟨hu1,hu2,hu3,hu4⟩:=hu;have F1:=Hd (rfloor_any a d (by omega) (by omega) (by omega) (by omega));have F2:=Hd (rfloor_any b d (by omega) (by omega) (by omega) (by omega));have HR:Hid (roundE (a,b) d=(a/d+(cornerE (a%d) (b%d) d).1,b/d+(cornerE (a%d) (b%d) d).2)):=rfl;have hs0:=Int.emod_nonneg a (show d≠0 by omega);have hs1:=Int.emod_lt_of_pos a (show 0<d by omega);have ht0:=Int.emod_nonneg b (show d≠0 by omega);have ht1:=Int.emod_lt_of_pos b (show 0<d by omega);obtain⟨hq1a,hq1b⟩:=quot_in hd hd2 hu1 hu2;obtain⟨hq2a,hq2b⟩:=quot_in hd hd2 hu3 hu4;show Calls Tryz.prog 131 #[.agg #[.int .i64 a,.int .i64 b],.int .i64 d] w _;generalize roundE (a,b) d=z at *;generalize a/d=qa at *;generalize b/d=qb at *;generalize a%d=s at *;generalize b%d=t at *;have HNF:=Hd (fun i k hi hi2 hk hk2=>near_first (d:=d) hs0 hs1 ht0 ht1 i k hi hi2 hk hk2);obtain⟨ci1,ci2,ci3,ci4⟩:=corner_in s t d;have q0:decide (d<1)=false:=decide_eq_false (by omega);have q1:decide (1125899906842624<d)=false:=decide_eq_false (by omega);have q2:decide (a< -1152921504606846976)=false:=decide_eq_false (by omega);have q3:decide (1152921504606846976<a)=false:=decide_eq_false (by omega);have q4:decide (b< -1152921504606846976)=false:=decide_eq_false (by omega);have q5:decide (1152921504606846976<b)=false:=decide_eq_false (by omega)
 go_enter Tryz.func131,Tryz.ntmps131
 go_wp2_with fail
 refine(F1.out _).mono ?_;rintro e w1 ⟨rfl,hb1⟩;have h2:Two w1 w.heap.size (.int .i64 a) (.int .i64 b):=(Two.of_row (t:=37) (f:=_) (by rw[Below.heap_alloc _ _ _ (by simp)];exact heap_new _ _ _ rfl)).later (by simp;omega) hb1;have H5:Hid (Two2 w1 (w.heap.size+1) (.int .i64 0) (.int .i64 0)):=(Two2.of_row (t:=37) (heap_new _ _ _ (by simp))).later (by simp) hb1;have hz:=hb1.size;simp at hz;have hq:Hid (Below w.heap.size w w1):=(br.alloc lr _).alloc (by simp) _ |>.trans (hb1.mono (by simp;omega))
 obtain⟨c0,c1⟩:=h2;clear hb1
 go_wp2_with fail
 refine(F2.out _).mono ?_;rintro e w2 ⟨rfl,hb2⟩;have HT:=Hd (H5.out.later (by omega) hb2);have HB:=Hd (hq.out.trans (hb2.mono hq.out.size));have hsz:w.heap.size+1<w2.heap.size:=by have:=hb2.size;omega
 clear hq H5 c0 c1 hb2 F1 F2 q0 q1 q2 q3 q4 q5 hz;obtain⟨i0,hi0⟩:∃x,(cornerE s t d).1=x:=⟨_,rfl⟩;obtain⟨k0,hk0⟩:∃x,(cornerE s t d).2=x:=⟨_,rfl⟩;have HCE:Hid (cornerE s t d=(i0,k0)):=Prod.ext hi0 hk0;rw[hi0]at ci1 ci2;rw[hk0]at ci3 ci4;have HZ:Hid (z=(qa+i0,qb+k0)):=by show _=_;rw[HR.out,hi0,hk0]
 have HNO:Hid (∀ i k:Int,-1<=i->i<=2-> -1<=k->k<=2->(i<i0∨(i=i0/\k<k0))->nearB (s-i*d) (t-k*d) d=false):=fun i k h1 h2 h3 h4 h5=>(HNF.out i k h1 h2 h3 h4).1 (by rw[hi0,hk0];exact h5)
 have HYES:Hid (nearB (s-i0*d) (t-k0*d) d=true):=(HNF.out i0 k0 (by omega) (by omega) (by omega) (by omega)).2 HCE.out.symm;clear HNF hi0 hk0 HR HCE;go_wp2
 go_loopw [12] (fun iv wr=>∃i:Int,iv=.int .i64 i/\ -1<=i/\i<=i0/\wr=w2) (fun iv _=>(3-intOf iv).toNat)
 case atStart=>exact⟨-1,rfl,by omega,by omega,rfl⟩
 case round=>
  obtain⟨i,rfl,hi1,hi2,rfl⟩:=hrel;have q6:decide (i<=2)=true:=decide_eq_true (by omega);obtain⟨P,hP⟩:∃P,i*d=P:=⟨_,rfl⟩;have hPb:=times_small (i:=i) (d:=d) (by omega) hi1 (by omega);rw[hP]at hPb;obtain⟨hP1,hP2⟩:=hPb;have HNO2:Hid (∀ k:Int,-1<=k->k<=2->(i<i0∨(i=i0/\k<k0))->nearB (s-P) (t-k*d) d=false):=fun k h3 h4 h5=>by rw[<- hP];exact HNO.out i k hi1 (by omega) h3 h4 h5
  have HY2:Hid (i=i0->nearB (s-P) (t-k0*d) d=true):=fun e=>by rw[<- hP,e];exact HYES.out
  clear HNO HYES;go_wp2
  go_loopw [13] (fun kv wx=>∃k:Int,kv=.int .i64 k/\ -1<=k/\k<=3/\(i=i0->k<=k0)/\wx=wr) (fun kv _=>(4-intOf kv).toNat)
  case atStart=>exact⟨-1,rfl,by omega,by omega,by omega,rfl⟩
  case round=>
   obtain⟨k,rfl,hk1,hk2,hk3,rfl⟩:=hrel;by_cases hk:k<=2
   ·have q7:decide (k<=2)=true:=decide_eq_true hk
    obtain⟨Q,hQ⟩:∃P,k*d=P:=⟨_,rfl⟩;have hQb:=times_small (i:=k) (d:=d) (by omega) hk1 hk;rw[hQ]at hQb;obtain⟨hQ1,hQ2⟩:=hQb;have HH:=Hd (holds_any (s-P) (t-Q) d (by omega) (by omega));by_cases hat:i=i0/\k=k0
    ·obtain⟨rfl,rfl⟩:=hat
     have hy:=HY2.out rfl;rw[hQ]at hy;rw[hy]at HH;clear hy HNO2 HY2;obtain⟨⟨z0,z1⟩,z2,z3⟩:=HT.out
     go_wp2_with fail
     refine(HH.out _).mono ?_;rintro e w5 ⟨rfl,rfl⟩;go_wp2;exact bodyPost_ret (v:=.tuple #[.agg #[.int .i64 (qa+i),.int .i64 (qb+k)],.bool true]) (by simp[results,Tryz.results131,go_sem, *]) rfl ⟨by rw[HZ.out],(HB.out.setCell (p:=⟨w.heap.size+1,0,none⟩) (by simp) _).setCell (p:=⟨w.heap.size+1,1,none⟩) (by simp) _⟩
    ·have hn:=HNO2.out k hk1 hk (by omega)
     rw[hQ]at hn;rw[hn]at HH;have hk4:i=i0->k+1<=k0:=fun e=>by have:=hk3 e;omega
     clear hn hat HNO2 HY2 hk3
     go_wp2_with fail
     refine(HH.out _).mono ?_;rintro e w5 ⟨rfl,rfl⟩;go_wp2
     go_roundw
     case rel=>exact⟨k+1,rfl,by omega,by omega,hk4,by first|rfl|trivial⟩
     case measure=>simp[intOf];omega
   ·have q7:decide (k<=2)=false:=decide_eq_false hk
    have hlt:i+1<=i0:=by
     rcases Int.lt_or_le i i0 with h|h
     ·omega
     ·have:=hk3 (by omega);omega
    clear HNO2 HY2 hk3;go_wp2
    go_roundw
    case rel=>exact⟨i+1,rfl,by omega,hlt,by first|rfl|trivial⟩
    case measure=>simp[intOf];omega
end
end Go.Proofs.YtpkoapmpknbgoaaGreat
namespace Go.Proofs.YtpkoapmpknbgoaaGreat.Wd
section
def upN:Nat->E2->E2
 |0,z=>z
 |k+1,z=>upN k (upE z)
theorem upN_up(k:Nat)(z:E2):upN (k+1) z=upE (upN k z):=by
 induction k generalizing z with
 |zero=>rfl
 |succ k ih=>show upN (k+1) (upE z)=_;rw[ih];rfl
theorem upN_add(j k:Nat)(z:E2):upN j (upN k z)=upN (k+j) z:=by
 induction j with
 |zero=>rfl
 |succ j ih=>rw[upN_up,ih, <-Nat.add_assoc,upN_up]
def baseB(z:E2):Bool:=decide (-512<=z.1)&&decide (z.1<512)&&(decide (-512<=z.2)&&decide (z.2<512))
def shapeB(r:Int)(z:E2):Bool:=decide (0<=r)&&decide (r<=12)&&(decide (-1073741824<=z.1)&&decide (z.1<=1073741824))&&(decide (-1073741824<=z.2)&&decide (z.2<=1073741824))
def okB(r:Int)(z:E2):Bool:=shapeB r z&&baseB (upN r.toNat z)
theorem baseB_iff(z:E2):baseB z=true↔ -512<=z.1/\z.1<512/\ -512<=z.2/\z.2<512:=by
 unfold baseB;simp[and_assoc]
theorem shapeB_iff(r:Int)(z:E2):shapeB r z=true↔0<=r/\r<=12/\ -1073741824<=z.1/\z.1<=1073741824/\ -1073741824<=z.2/\z.2<=1073741824:=by
 unfold shapeB;simp[and_assoc]
theorem okB_iff(r:Int)(z:E2):okB r z=true↔shapeB r z=true/\baseB (upN r.toNat z)=true:=by
 unfold okB;simp
theorem okB_nat{r:Int}{z:E2}(h:okB r z=true):∃k:Nat,r=k/\k<=12:=by
 have:=(shapeB_iff r z).1 ((okB_iff r z).1 h).1;exact⟨r.toNat,by omega,by omega⟩
def hd(f:Nat->Nat):Nat->Nat
 |0=>0
 |k+1=>hd f k*8+f (k+1)
theorem hd_lt{f:Nat->Nat}(h:∀k,f k<8)(n:Nat):hd f n<8 ^ n:=by
 induction n with
 |zero=>show 0<1;omega
 |succ n ih=>show hd f n*8+f (n+1)<8 ^ (n+1);rw[Nat.pow_succ];have:=h (n+1);omega
theorem hd_div{f:Nat->Nat}(h:∀k,f k<8)(k j:Nat):hd f (k+j)/8 ^ j=hd f k:=by
 induction j with
 |zero=>simp
 |succ j ih=>
  rw[Nat.pow_succ,Nat.mul_comm, <-Nat.div_div_eq_div_mul];show(hd f (k+j)*8+f (k+j+1))/8/8 ^ j=_;rw[show (hd f (k+j)*8+f (k+j+1))/8=hd f (k+j) by have:=h (k+j+1);omega];exact ih
theorem hd_dig{f:Nat->Nat}(h:∀k,f k<8){k:Nat}(hk:0<k)(j:Nat):hd f (k+j)/8 ^ j%8=f k:=by
 rw[hd_div h];obtain⟨i,rfl⟩:∃i,k=i+1:=⟨k-1,by omega⟩;show(hd f i*8+f (i+1))%8=_;have:=h (i+1);omega
theorem hd_congr{f g:Nat->Nat}{n:Nat}(h:∀k,0<k->k<=n->f k=g k):hd f n=hd g n:=by
 induction n with
 |zero=>rfl
 |succ n ih=>
  show hd f n*8+f (n+1)=hd g n*8+g (n+1);rw[ih fun k h1 h2=>h k h1 (by omega),h (n+1) (by omega) lr]
def dgW(w k:Nat):Nat:=w/8 ^ (12-k)%8
theorem dgW_lt(w k:Nat):dgW w k<8:=Nat.mod_lt _ (by decide)
theorem hd_word(w:Nat){k:Nat}(hk:k<=12):hd (dgW w) k=w/8 ^ (12-k)%8 ^ k:=by
 induction k with
 |zero=>show 0=_;rw[Nat.pow_zero,Nat.mod_one]
 |succ k ih=>
  show hd (dgW w) k*8+dgW w (k+1)=_;rw[ih (by omega)];unfold dgW;rw[Nat.pow_succ 8 k,Nat.mul_comm (8 ^ k) 8,Nat.mod_mul,Nat.div_div_eq_div_mul, <-Nat.pow_succ,show(12-(k+1)).succ=12-k by omega];omega
def dgt(r:Nat)(z:E2)(k:Nat):Nat:=if k<=r then digE (upN (r-k) z)else 7
theorem dgt_lt(r:Nat)(z:E2)(k:Nat):dgt r z k<8:=by
 unfold dgt
 split
 ·have:=digE_lt (upN (r-k) z);omega
 ·decide
def topN(r:Nat)(b:E2):Nat:=1152921504606846976+r*72057594037927936+(b.1+512).toNat*70368744177664+(b.2+512).toNat*68719476736
def wordN(r:Nat)(z:E2):Nat:=topN r (upN r z)+hd (dgt r z) 12
def dn(f:Nat->Nat)(b:E2):Nat->E2
 |0=>b
 |k+1=>downE (dn f b k) (f (k+1))
def rW(w:Nat):Nat:=w/72057594037927936%16
def bW(w:Nat):E2:=(((w/70368744177664%1024:Nat):Int)-512,((w/68719476736%1024:Nat):Int)-512)
def zW(w:Nat):E2:=dn (dgW w) (bW w) (rW w)
def okD(f:Nat->Nat)(r:Nat):Nat->Bool
 |0=>true
 |k+1=>okD f r k&&((f (k+1)==7)==decide (r<k+1))
theorem okD_iff(f:Nat->Nat)(r n:Nat):okD f r n=true↔∀k,0<k->k<=n->(f k=7↔r<k):=by
 induction n with
 |zero=>exact⟨fun _ k h1 h2=>by omega,fun _=>rfl⟩
 |succ n ih=>
  show(okD f r n&&((f (n+1)==7)==decide (r<n+1)))=true↔_;rw[Bool.and_eq_true,ih];constructor
  ·rintro⟨h1,h2⟩ k hk hk2
   rcases Nat.lt_or_ge k (n+1)with h|h
   ·exact h1 k hk (by omega)
   ·obtain rfl:k=n+1:=by omega
    by_cases ha:f (n+1)=7 <;> by_cases hb:r<n+1 <;> simp_all
  ·intro h
   refine⟨fun k hk hk2=>h k hk (by omega),?_⟩;have:=h (n+1) (by omega) lr;by_cases hb:r<n+1
   ·rw[this.2 hb,decide_eq_true hb];rfl
   ·rw[decide_eq_false hb,beq_eq_false_iff_ne.2 fun e=>hb (this.1 e)];rfl
theorem okD_stop{f:Nat->Nat}{r n k:Nat}(h:okD f r k=false)(hk:k<=n):okD f r n=false:=by
 obtain⟨j,rfl⟩:∃j,n=k+j:=⟨n-k,by omega⟩;clear hk
 induction j with
 |zero=>exact h
 |succ j ih=>show(okD f r (k+j)&&_)=false;rw[ih];rfl
def isW(w:Nat):Bool:=decide (w/1152921504606846976=1)&&decide (rW w<=12)&&okD (dgW w) (rW w) 12
theorem isW_iff(w:Nat):isW w=true↔w/1152921504606846976=1/\rW w<=12/\∀k,0<k->k<=12->(dgW w k=7↔rW w<k):=by
 unfold isW;rw[Bool.and_eq_true,Bool.and_eq_true,okD_iff];simp[and_assoc]
theorem dn_up{f:Nat->Nat}{b:E2}{r:Nat}(h:∀k,0<k->k<=r->f k<7){j:Nat}(hj:j<=r):upN j (dn f b r)=dn f b (r-j):=by
 induction j with
 |zero=>rfl
 |succ j ih=>
  rw[upN_up,ih (by omega)];obtain⟨i,hi⟩:∃i,r-j=i+1:=⟨r-j-1,by omega⟩;rw[hi,show r-(j+1)=i by omega];exact upE_down _ (h (i+1) (by omega) (by omega))
theorem dn_dig{f:Nat->Nat}{b:E2}{r:Nat}(h:∀k,0<k->k<=r->f k<7){k:Nat}(hk:0<k)(hr:k<=r):digE (upN (r-k) (dn f b r))=f k:=by
 rw[dn_up h (by omega)];obtain⟨i,rfl⟩:∃i,k=i+1:=⟨k-1,by omega⟩;rw[show r-(r-(i+1))=i+1 by omega];exact digE_down _ (h (i+1) hk hr)
theorem dn_of_up(r:Nat)(z:E2){k:Nat}(hk:k<=r):dn (dgt r z) (upN r z) k=upN (r-k) z:=by
 induction k with
 |zero=>rfl
 |succ k ih=>
  show downE (dn (dgt r z) (upN r z) k) (dgt r z (k+1))=_;rw[ih (by omega)];unfold dgt;rw[if_pos hk,show r-k=(r-(k+1))+1 by omega,upN_up];exact down_up _
def Hex(h:Int)(z:E2):Prop:= -h<=z.1/\z.1<=h/\ -h<=z.2/\z.2<=h/\ -h<=z.1+z.2/\z.1+z.2<=h
theorem hex_down{h:Int}{q:E2}(hq:Hex h q){d:Nat}(hd:d<7):Hex (3*h+1) (downE q d):=by
 rw[downE_eq];unfold Hex at *;rcases left_cases hd with⟨_,e⟩|⟨_,e⟩|⟨_,e⟩|⟨_,e⟩|⟨_,e⟩|⟨_,e⟩|⟨_,e⟩ <;> rw[e] <;> simp only <;> omega
def hexH:Nat->Int
 |0=>1024
 |k+1=>3*hexH k+1
theorem dn_hex{f:Nat->Nat}{b:E2}(hb:baseB b=true){r:Nat}(h:∀k,0<k->k<=r->f k<7){k:Nat}(hk:k<=r):Hex (hexH k) (dn f b k):=by
 induction k with
 |zero=>
  have:=(baseB_iff b).1 hb;show Hex 1024 b;unfold Hex;omega
 |succ k ih=>exact hex_down (ih (by omega)) (h (k+1) (by omega) hk)
theorem hexH_le{k:Nat}(h:k<=12):hexH k<=1073741824:=by
 rcases(show k=0∨k=1∨k=2∨k=3∨k=4∨k=5∨k=6∨k=7∨k=8∨k=9∨k=10∨k=11∨k=12 by omega)with rfl|rfl|rfl|rfl|rfl|rfl|rfl|rfl|rfl|rfl|rfl|rfl|rfl <;> decide
theorem Hex.mono{h h':Int}{z:E2}(hz:Hex h z)(hh:h<=h'):Hex h' z:=by unfold Hex at *;omega
theorem dn_ok{f:Nat->Nat}{b:E2}(hb:baseB b=true){r:Nat}(hr:r<=12)(h:∀k,0<k->k<=r->f k<7):okB r (dn f b r)=true:=by
 rw[okB_iff,shapeB_iff];have h1:=(dn_hex hb h (Nat.le_refl r)).mono (hexH_le hr);unfold Hex at h1;refine⟨⟨by omega,by omega,by omega,by omega,by omega,by omega⟩,?_⟩;rw[show (r:Int).toNat=r from rfl,dn_up h (Nat.le_refl r),Nat.sub_self];exact hb
theorem bW_base(w:Nat):baseB (bW w)=true:=by
 rw[baseB_iff];unfold bW;simp only;omega
theorem topN_parts{r:Nat}{b:E2}(hr:r<=12)(hb:baseB b=true){t:Nat}(ht:t<68719476736):
  (topN r b+t)/1152921504606846976=1/\rW (topN r b+t)=r/\bW (topN r b+t)=b/\(topN r b+t)<2305843009213693952/\topN r b%68719476736=0:=by
 obtain⟨h1,h2,h3,h4⟩:=(baseB_iff b).1 hb;unfold rW bW topN;refine⟨by omega,by omega,?_,by omega,by omega⟩;ext <;> simp only <;> omega
theorem hd12_lt{f:Nat->Nat}(h:∀k,f k<8):hd f 12<68719476736:=by
 have h1:=hd_lt h 12;rw[show (8:Nat) ^ 12=68719476736 by decide]at h1;exact h1
theorem dgW_word{r:Nat}{z:E2}(hr:r<=12)(hb:baseB (upN r z)=true){k:Nat}(h0:0<k)(hk:k<=12):dgW (wordN r z) k=dgt r z k:=by
 have h5:=(topN_parts hr hb (t:=0) (by decide)).2.2.2.2;unfold dgW wordN;obtain⟨j,hj⟩:∃j,12=k+j:=⟨12-k,by omega⟩;have h1:=hd_dig (f:=dgt r z) (dgt_lt r z) h0 j;rw[<- hj]at h1;obtain⟨c,hc⟩:∃c,topN r (upN r z)=c*68719476736:=⟨topN r (upN r z)/68719476736,by omega⟩;rw[hc,show 12-k=j by omega,show(68719476736:Nat)=8 ^ (k+j) by rw[<- hj],Nat.pow_add, <-Nat.mul_assoc];rw[Nat.add_comm,Nat.add_mul_div_right _ _ (Nat.pow_pos (by decide))];obtain⟨i,rfl⟩:∃i,k=i+1:=⟨k-1,by omega⟩;rw[Nat.pow_succ, <-Nat.mul_assoc,Nat.add_mul_mod_self_right];exact h1
theorem wordN_parts{r:Nat}{z:E2}(hr:r<=12)(hb:baseB (upN r z)=true):wordN r z/1152921504606846976=1/\rW (wordN r z)=r/\bW (wordN r z)=upN r z:=by
 obtain⟨h1,h2,h3,_,_⟩:=topN_parts hr hb (hd12_lt (dgt_lt r z));unfold wordN;exact⟨h1,h2,h3⟩
theorem word_isW{r:Nat}{z:E2}(hr:r<=12)(hb:baseB (upN r z)=true):isW (wordN r z)=true:=by
 obtain⟨h1,h2,h3⟩:=wordN_parts hr hb;rw[isW_iff,h2];refine⟨h1,hr,fun k h0 hk=>?_⟩;rw[dgW_word hr hb h0 hk];unfold dgt
 split
 ·have:=digE_lt (upN (r-k) z);omega
 ·omega
theorem dn_congr{f g:Nat->Nat}{b:E2}{r:Nat}(h5:∀k,0<k->k<=r->f k=g k):∀k,k<=r->dn f b k=dn g b k:=by
 intro k hk
 induction k with
 |zero=>rfl
 |succ k ih=>
  show downE _ _=downE _ _;rw[ih (by omega),h5 (k+1) (by omega) (by omega)]
theorem dn_back{r:Nat}{z:E2}{f:Nat->Nat}(h5:∀k,0<k->k<=r->f k=dgt r z k):dn f (upN r z) r=z:=by
 rw[dn_congr h5 r (Nat.le_refl r),dn_of_up r z (Nat.le_refl r),Nat.sub_self]
 rfl
theorem zW_back{r:Nat}{z:E2}{w:Nat}(h2:rW w=r)(h3:bW w=upN r z)(h5:∀k,0<k->k<=r->dgW w k=dgt r z k):zW w=z:=by
 unfold zW;rw[h2,h3];exact dn_back h5
theorem word_zW{r:Nat}{z:E2}(hr:r<=12)(hb:baseB (upN r z)=true):zW (wordN r z)=z:=
 zW_back (wordN_parts hr hb).2.1 (wordN_parts hr hb).2.2 (fun _ h0 h1=>dgW_word hr hb h0 (Nat.le_trans h1 hr))
theorem okB_parts{r:Nat}{z:E2}(h:okB r z=true):r<=12/\baseB (upN r z)=true:=by
 obtain⟨hs,hb⟩:=(okB_iff _ _).1 h;have hr:=(shapeB_iff _ _).1 hs;exact⟨by omega,hb⟩
theorem word_cell{r:Nat}{z:E2}(h:okB r z=true):isW (wordN r z)=true/\rW (wordN r z)=r/\zW (wordN r z)=z:=by
 obtain⟨hr,hb⟩:=okB_parts h;exact⟨word_isW hr hb,(wordN_parts hr hb).2.1,word_zW hr hb⟩
theorem isW_dig{w:Nat}(h:isW w=true){k:Nat}(h0:0<k)(hk:k<=rW w):dgW w k<7:=by
 obtain⟨_,h2,h3⟩:=(isW_iff w).1 h;have h4:=h3 k h0 (by omega);have:=dgW_lt w k;omega
theorem cell_word{w:Nat}(h:isW w=true):okB (rW w) (zW w)=true/\wordN (rW w) (zW w)=w:=by
 obtain⟨h1,h2,h3⟩:=(isW_iff w).1 h;have hd:∀k,0<k->k<=rW w->dgW w k<7:=fun k h0 hk=>isW_dig h h0 hk
 refine⟨dn_ok (bW_base w) h2 hd,?_⟩;unfold wordN;rw[show upN (rW w) (zW w)=bW w by unfold zW;rw[dn_up hd lr,Nat.sub_self];rfl];rw[hd_congr (g:=dgW w) (fun k h0 hk=>?_),hd_word w (Nat.le_refl 12)]
 ·unfold topN rW bW
  simp only[Nat.sub_self,Nat.pow_zero,Nat.div_one];have e:(8:Nat) ^ 12=68719476736:=by decide
  rw[e];omega
 ·unfold dgt
  split
  ·rename_i hkr
   unfold zW;exact dn_dig hd h0 hkr
  ·rename_i hkr
   exact((h3 k h0 hk).2 (by omega)).symm
theorem wordN_lt{r:Nat}{z:E2}(h:okB r z=true):wordN r z<2305843009213693952/\1152921504606846976<=wordN r z:=by
 obtain⟨hs,hb⟩:=(okB_iff _ _).1 h;have hr:=(shapeB_iff _ _).1 hs;obtain⟨_,_,_,h4,_⟩:=topN_parts (r:=r) (by omega) hb (hd12_lt (dgt_lt r z));exact⟨h4,by unfold wordN topN;omega⟩
theorem word_inj{r s:Nat}{y z:E2}(h:okB r y=true)(h2:okB s z=true)(e:wordN r y=wordN s z):r=s/\y=z:=by
 obtain⟨_,a1,a2⟩:=word_cell h;obtain⟨_,b1,b2⟩:=word_cell h2;rw[e]at a1 a2;exact⟨a1.symm.trans b1,a2.symm.trans b2⟩
def bE:Nat->E2
 |0=>(1,0)
 |k+1=>mulE (bE k) (2,1)
def conjE(z:E2):E2:=(z.1+z.2,-z.2)
theorem bE_tab:bE 0=(1,0)/\bE 1=(2,1)/\bE 2=(3,5)/\bE 3=(1,18)/\bE 4=(-16,55)/\bE 5=(-87,149)/\bE 6=(-323,360)/\bE 7=(-1006,757)/\bE 8=(-2769,1265)/\bE 9=(-6803,1026)/\bE 10=(-14632,-3725)/\bE 11=(-25539,-25807)/\bE 12=(-25271,-102960):=by decide
theorem upto12{m:Nat}(h:m<=12):m=0∨m=1∨m=2∨m=3∨m=4∨m=5∨m=6∨m=7∨m=8∨m=9∨m=10∨m=11∨m=12:=by omega
def hN:Nat->Int
 |0=>1|1=>3|2=>8|3=>19|4=>55|5=>149|6=>360|7=>1006|8=>2769|9=>6803|10=>18357|11=>51346|_=>128231
def rN:Nat->Int
 |0=>1560|1=>3900|2=>10140|3=>28860|4=>73320|5=>184080|6=>532740|7=>1375140|8=>3332940|9=>9812400|10=>25731420|11=>60179340|_=>180328980
def ptE(x y:Int):E2:=(45*x-26*y,52*y)
def errE(m:Nat)(z u:E2):E2:=(2340*(mulE (bE m) z).1-u.1,2340*(mulE (bE m) z).2-u.2)
def dN(m:Nat):Int:=2340*7 ^ m
def nearE(x y:Int)(r:Nat):E2:=roundE (mulE (ptE x y) (conjE (bE (12-r)))) (dN (12-r))
theorem round_rest{v:E2}{d:Int}(hd:0<d):∃s t:Int,v.1=d*(roundE v d).1+s/\v.2=d*(roundE v d).2+t/\ -d<=2*s+t/\2*s+t<=d/\ -d<=s+2*t/\s+2*t<=d/\ -d<=s-t/\s-t<=d:=by
 have h1:=Int.mul_ediv_add_emod v.1 d;have h2:=Int.mul_ediv_add_emod v.2 d;have a1:=Int.emod_nonneg v.1 (show d≠0 by omega);have a2:=Int.emod_lt_of_pos v.1 hd;have b1:=Int.emod_nonneg v.2 (show d≠0 by omega);have b2:=Int.emod_lt_of_pos v.2 hd;have hc:((cornerE (v.1%d) (v.2%d) d).1=0∨(cornerE (v.1%d) (v.2%d) d).1=1)/\((cornerE (v.1%d) (v.2%d) d).2=0∨(cornerE (v.1%d) (v.2%d) d).2=1):=by
  unfold cornerE
  (repeat' split) <;> simp
 have hn:=(near_first a1 a2 b1 b2 (cornerE (v.1%d) (v.2%d) d).1 (cornerE (v.1%d) (v.2%d) d).2 (by omega) (by omega) (by omega) (by omega)).2 rfl;unfold roundE addE;simp only;generalize hk:cornerE (v.1%d) (v.2%d) d=c at *;clear hk;obtain⟨i,k⟩:=c;simp only at hc hn ⊢;refine⟨v.1%d-i*d,v.2%d-k*d,?_,?_,?_⟩
 ·rw[Int.mul_add,Int.mul_comm d i];omega
 ·rw[Int.mul_add,Int.mul_comm d k];omega
 ·unfold nearB at hn
  simp only[Bool.and_eq_true,decide_eq_true_eq]at hn;omega
theorem err_start{m:Nat}(hm:m<=12)(u:E2):Hex (rN m) (errE m (roundE (mulE u (conjE (bE m))) (dN m)) u):=by
 obtain⟨q0,q1,q2,q3,q4,q5,q6,q7,q8,q9,q10,q11,q12⟩:=bE_tab;obtain⟨s,t,h1,h2,h3⟩:=round_rest (v:=mulE u (conjE (bE m))) (d:=dN m) (by rcases upto12 hm with rfl|rfl|rfl|rfl|rfl|rfl|rfl|rfl|rfl|rfl|rfl|rfl|rfl <;> decide);generalize roundE (mulE u (conjE (bE m))) (dN m)=z at *;obtain⟨u1,u2⟩:=u;obtain⟨z1,z2⟩:=z;rcases upto12 hm with rfl|rfl|rfl|rfl|rfl|rfl|rfl|rfl|rfl|rfl|rfl|rfl|rfl <;> simp only[Hex,errE,mulE,conjE,q0,q1,q2,q3,q4,q5,q6,q7,q8,q9,q10,q11,q12,rN]at h1 h2 ⊢ <;> simp only[dN,Int.reducePow,Int.reduceMul]at h1 h2 h3 <;> omega
theorem err_up{m:Nat}(hm:m<12){T:Int}{u z:E2}(h:Hex T (errE m z u)):Hex (T+2340*hN m) (errE (m+1) (upE z) u):=by
 obtain⟨q0,q1,q2,q3,q4,q5,q6,q7,q8,q9,q10,q11,q12⟩:=bE_tab;have hz:=down_up z;have hl:=left_cases (digE_lt z);generalize upE z=q at *;generalize digE z=d at *;rw[downE_eq]at hz;subst hz;obtain⟨u1,u2⟩:=u;obtain⟨z1,z2⟩:=q;generalize leftE d=l at *;obtain⟨l1,l2⟩:=l;simp only[Prod.mk.injEq]at hl;have hl2: -1<=l1/\l1<=1/\ -1<=l2/\l2<=1/\ -1<=l1+l2/\l1+l2<=1:=by omega
 clear hl;rcases(show m=0∨m=1∨m=2∨m=3∨m=4∨m=5∨m=6∨m=7∨m=8∨m=9∨m=10∨m=11 by omega)with rfl|rfl|rfl|rfl|rfl|rfl|rfl|rfl|rfl|rfl|rfl|rfl <;> simp only[Hex,errE,mulE,q0,q1,q2,q3,q4,q5,q6,q7,q8,q9,q10,q11,q12,hN,Nat.reduceAdd]at h ⊢ <;> omega
theorem err_by{m:Nat}(hm:m<=12){T h:Int}{u z e:E2}(hz:Hex T (errE m z u))(he:Hex h e):Hex (T+2340*(hN m*h)) (errE m (addE z e) u):=by
 obtain⟨q0,q1,q2,q3,q4,q5,q6,q7,q8,q9,q10,q11,q12⟩:=bE_tab;obtain⟨u1,u2⟩:=u;obtain⟨z1,z2⟩:=z;obtain⟨e1,e2⟩:=e;rcases upto12 hm with rfl|rfl|rfl|rfl|rfl|rfl|rfl|rfl|rfl|rfl|rfl|rfl|rfl <;> simp only[Hex,errE,mulE,addE,q0,q1,q2,q3,q4,q5,q6,q7,q8,q9,q10,q11,q12,hN]at hz he ⊢ <;> omega
def tN(m:Nat):Nat->Int
 |0=>rN m+2340*(hN m*12)
 |k+1=>tN m k+2340*hN (m+k)
theorem err_ups{m:Nat}{u z:E2}(h:Hex (tN m 0) (errE m z u)){k:Nat}(hk:m+k<=12):Hex (tN m k) (errE (m+k) (upN k z) u):=by
 induction k with
 |zero=>exact h
 |succ k ih=>rw[upN_up];exact err_up (by omega) (ih (by omega))
theorem base_in{b:E2}{x y:Int}(hx:0<=x/\x<1073741824)(hy:0<=y/\y<1073741824)(h:Hex 4000000000 (errE 12 b (ptE x y))):baseB b=true:=by
 obtain⟨_,_,_,_,_,_,_,_,_,_,_,_,q12⟩:=bE_tab;rw[baseB_iff];obtain⟨b1,b2⟩:=b;simp only[Hex,errE,mulE,ptE,q12]at h ⊢;omega
theorem ok_of_base{r:Nat}{z:E2}(hr:r<=12)(h:baseB (upN r z)=true):okB r z=true:=by
 have h1:=dn_of_up r z (Nat.le_refl r);rw[Nat.sub_self]at h1;have h2:=dn_ok h hr (f:=dgt r z) fun k _ hk=>by unfold dgt;rw[if_pos hk];exact digE_lt _
 rw[h1]at h2;exact h2
theorem near_ok{x y:Int}(hx:0<=x/\x<1073741824)(hy:0<=y/\y<1073741824){r:Nat}(hr:r<=12){e:E2}(he:Hex 12 e):okB r (addE (nearE x y r) e)=true:=by
 refine ok_of_base hr ?_;have h1:=err_by (m:=12-r) (by omega) (err_start (by omega) (ptE x y)) he;have h2:=err_ups (m:=12-r) h1 (k:=r) (by omega);rw[show 12-r+r=12 by omega]at h2;refine base_in hx hy (h2.mono ?_);rcases upto12 hr with rfl|rfl|rfl|rfl|rfl|rfl|rfl|rfl|rfl|rfl|rfl|rfl|rfl <;> decide
theorem near_ok0{x y:Int}(hx:0<=x/\x<1073741824)(hy:0<=y/\y<1073741824){r:Nat}(hr:r<=12):okB r (nearE x y r)=true:=by
 have:=near_ok hx hy hr (e:=(0,0)) (by unfold Hex;simp);unfold addE at this;simpa using this
end
end Go.Proofs.YtpkoapmpknbgoaaGreat.Wd
namespace Go.Proofs.YtpkoapmpknbgoaaGreat
section
open Go.RowKit Go.Lib Wd
abbrev vC(r:Int)(z:E2):Value:=.agg #[.int .i64 r,.int .i64 z.1,.int .i64 z.2]
theorem shape_any(r:Int)(z:E2)(w:World):
  Calls Tryz.prog 147 #[vC r z] w fun e w'=>e=.returned (.bool (shapeB r z))/\Below w.heap.size w w':=by
 obtain⟨a,b⟩:=z;have W1:=Hd (within_any a 1073741824 (by omega) (by omega));have W2:=Hd (within_any b 1073741824 (by omega) (by omega));have HS:Hid (shapeB r (a,b)=(decide (0<=r)&&decide (r<=12)&&(decide (-1073741824<=a)&&decide (a<=1073741824))&&(decide (-1073741824<=b)&&decide (b<=1073741824)))):=rfl;simp only[vC]at *;generalize shapeB r (a,b)=s at *;generalize(decide (-1073741824<=a)&&decide (a<=1073741824))=p at *;generalize(decide (-1073741824<=b)&&decide (b<=1073741824))=q at *;have hB:Hid (Below w.heap.size w (w.alloc (.cells #[.int .i64 r,.int .i64 a,.int .i64 b] 39))):=br.alloc lr _;by_cases h0:0<=r
 ·by_cases h1:r<=12
  ·have HV:Hid (s=(p&&q)):=by show _=_;rw[HS.out,decide_eq_true h0,decide_eq_true h1];simp
   clear HS;cases p
   ·go_enter Tryz.func147,Tryz.ntmps147
    go_wp2_with fail
    refine(W1.out _).mono ?_;rintro e w1 ⟨rfl,rfl⟩;go_wp2;go_ret;exact⟨by rw[HV.out];rfl,hB.out⟩
   ·go_enter Tryz.func147,Tryz.ntmps147
    go_wp2_with fail
    refine(W1.out _).mono ?_;rintro e w1 ⟨rfl,rfl⟩
    go_wp2_with fail
    refine(W2.out _).mono ?_;rintro e w1 ⟨rfl,rfl⟩;go_wp2;go_ret;exact⟨by rw[HV.out,Bool.true_and];rfl,hB.out⟩
  ·have HV:Hid (s=false):=by show _=_;rw[HS.out,decide_eq_false h1];simp
   have q1:decide (r<=12)=false:=decide_eq_false h1;clear HS
   go_enter Tryz.func147,Tryz.ntmps147
   go_wp2;go_ret;exact⟨by rw[HV.out];rfl,hB.out⟩
 ·have HV:Hid (s=false):=by show _=_;rw[HS.out,decide_eq_false h0];simp
  have q1:decide (0<=r)=false:=decide_eq_false h0;clear HS
  go_enter Tryz.func147,Tryz.ntmps147
  go_wp2;go_ret;exact⟨by rw[HV.out];rfl,hB.out⟩
theorem in_any(n:Int)(w:World):
  Calls Tryz.prog 150 #[.int .i64 n] w fun e w'=>e=.returned (.bool (decide (-512<=n)&&decide (n<512)))/\w'=w:=by
 by_cases h0: -512<=n
 ·obtain⟨b,hb⟩:∃b,decide (n<512)=b:=⟨_,rfl⟩
  have HV:Hid ((decide (-512<=n)&&decide (n<512))=b):=by show _=_;rw[decide_eq_true h0,hb];rfl
  rw[HV.out];clear HV;cases b
  ·go_enter Tryz.func150,Tryz.ntmps150
   go_wp2;go_ret;exact⟨rfl,rfl⟩
  ·go_enter Tryz.func150,Tryz.ntmps150
   go_wp2;go_ret;exact⟨rfl,rfl⟩
 ·have q1:decide (-512<=n)=false:=decide_eq_false h0
  have HV:Hid ((decide (-512<=n)&&decide (n<512))=false):=by show _=_;rw[q1];rfl
  rw[HV.out];clear HV
  go_enter Tryz.func150,Tryz.ntmps150
  go_wp2;go_ret;exact⟨rfl,rfl⟩
theorem Turn.mono{S T:Nat->Prop}{w w':World}(h:Turn S w w')(hs:∀k,S k->T k):Turn T w w':=⟨h.1,h.2.1,h.2.2.1,h.2.2.2.1,fun k hk hn=>h.2.2.2.2 k hk fun h2=>hn (hs k h2)⟩
abbrev vD(f:Nat->Int):Value:=.agg #[.int .i64 (f 0),.int .i64 (f 1),.int .i64 (f 2),.int .i64 (f 3),.int .i64 (f 4),.int .i64 (f 5),.int .i64 (f 6),.int .i64 (f 7),.int .i64 (f 8),.int .i64 (f 9),.int .i64 (f 10),.int .i64 (f 11),.int .i64 (f 12)]
def Arr(w:World)(b:Nat)(f:Nat->Int):Prop:=∃A:Array Value,w.heap[b]? =some (.cells A 152 (0,0))/\A.size=13/\∀k,k<13->A[k]? =some (.int .i64 (f k))
theorem Arr.lt{w:World}{b:Nat}{f:Nat->Int}(h:Arr w b f):b<w.heap.size:=by obtain⟨A,h,_⟩:=h;exact(Array.getElem?_eq_some_iff.1 h).1
theorem Arr.turn{S:Nat->Prop}{w w':World}{b:Nat}{f:Nat->Int}(h:Arr w b f)(ht:Turn S w w')(hs:¬S b):Arr w' b f:=by
 have hl:=h.lt;obtain⟨A,h,h2⟩:=h;exact⟨A,(ht.2.2.2.2 b hl hs).trans h,h2⟩
theorem Arr.later{w w':World}{b:Nat}{f:Nat->Int}(h:Arr w b f)(hb:Below w.heap.size w w'):Arr w' b f:=h.turn (Turn.of_below (S:=fun _=>False) hb) (fun h=>h)
theorem Arr.cell{w:World}{b:Nat}{f:Nat->Int}(h:Arr w b f){k:Nat}(hk:k<13):w.cell? ⟨b,k,none⟩=some (.int .i64 (f k))/\w.frozen? ⟨b,k,none⟩=false:=by
 obtain⟨A,h,hs,h2⟩:=h;have:=h2 k hk;exact⟨by simp[World.cell?,h,this],by simp[World.frozen?,h]⟩
theorem Arr.put{w:World}{b:Nat}{f:Nat->Int}(h:Arr w b f){k:Nat}(_hk:k<13)(v:Int):Arr (w.setCell ⟨b,k,none⟩ (.int .i64 v)) b (fun j=>if j=k then v else f j)/\Turn (fun q=>q=b) w (w.setCell ⟨b,k,none⟩ (.int .i64 v)):=by
 refine⟨?_,(Turn.refl (fun q=>q=b) w).setCell (a:=⟨b,k,none⟩) rfl _⟩;obtain⟨A,h,hs,h2⟩:=h;refine⟨A.setIfInBounds k (.int .i64 v),?_,by simpa using hs,fun j hj=>?_⟩
 ·rw[Sort.setCell_eq]
  simp[Sort.mapBlock,Array.getElem?_modify,h,Sort.onCells]
 ·by_cases e:j=k
  ·subst e
   simp only[if_pos];rw[Array.getElem?_setIfInBounds_self_of_lt (by omega)]
  ·simp only[if_neg e]
   rw[Array.getElem?_setIfInBounds_ne (fun h=>e h.symm)];exact h2 j hj
theorem Arr.congr{w:World}{b:Nat}{f g:Nat->Int}(h:Arr w b f)(e:∀k,k<13->f k=g k):Arr w b g:=by
 obtain⟨A,h,hs,h2⟩:=h;exact⟨A,h,hs,fun k hk=>by rw[<- e k hk];exact h2 k hk⟩
theorem Arr.zero{w:World}{b:Nat}(h:w.heap[b]? =some (.cells #[.int .i64 0,.int .i64 0,.int .i64 0,.int .i64 0,.int .i64 0,.int .i64 0,.int .i64 0,.int .i64 0,.int .i64 0,.int .i64 0,.int .i64 0,.int .i64 0,.int .i64 0] 152 (0,0))):Arr w b fun _=>0:=
 ⟨_,h,rfl,fun k hk=>by
  rcases(show k=0∨k=1∨k=2∨k=3∨k=4∨k=5∨k=6∨k=7∨k=8∨k=9∨k=10∨k=11∨k=12 by omega)with rfl|rfl|rfl|rfl|rfl|rfl|rfl|rfl|rfl|rfl|rfl|rfl|rfl <;> rfl⟩
theorem Arr.cells{w:World}{b:Nat}{f:Nat->Int}(h:Arr w b f):w.cell? ⟨b,0,none⟩=some (.int .i64 (f 0))/\w.cell? ⟨b,1,none⟩=some (.int .i64 (f 1))/\w.cell? ⟨b,2,none⟩=some (.int .i64 (f 2))/\w.cell? ⟨b,3,none⟩=some (.int .i64 (f 3))/\w.cell? ⟨b,4,none⟩=some (.int .i64 (f 4))/\w.cell? ⟨b,5,none⟩=some (.int .i64 (f 5))/\w.cell? ⟨b,6,none⟩=some (.int .i64 (f 6))/\w.cell? ⟨b,7,none⟩=some (.int .i64 (f 7))/\w.cell? ⟨b,8,none⟩=some (.int .i64 (f 8))/\w.cell? ⟨b,9,none⟩=some (.int .i64 (f 9))/\w.cell? ⟨b,10,none⟩=some (.int .i64 (f 10))/\w.cell? ⟨b,11,none⟩=some (.int .i64 (f 11))/\w.cell? ⟨b,12,none⟩=some (.int .i64 (f 12)):=⟨(h.cell (k:=0) (by decide)).1,(h.cell (k:=1) (by decide)).1,(h.cell (k:=2) (by decide)).1,(h.cell (k:=3) (by decide)).1,(h.cell (k:=4) (by decide)).1,(h.cell (k:=5) (by decide)).1,(h.cell (k:=6) (by decide)).1,(h.cell (k:=7) (by decide)).1,(h.cell (k:=8) (by decide)).1,(h.cell (k:=9) (by decide)).1,(h.cell (k:=10) (by decide)).1,(h.cell (k:=11) (by decide)).1,(h.cell (k:=12) (by decide)).1⟩
theorem Arr.frozen{w:World}{b:Nat}{f:Nat->Int}(h:Arr w b f):w.frozen? ⟨b,0,none⟩=false/\w.frozen? ⟨b,1,none⟩=false/\w.frozen? ⟨b,2,none⟩=false/\w.frozen? ⟨b,3,none⟩=false/\w.frozen? ⟨b,4,none⟩=false/\w.frozen? ⟨b,5,none⟩=false/\w.frozen? ⟨b,6,none⟩=false/\w.frozen? ⟨b,7,none⟩=false/\w.frozen? ⟨b,8,none⟩=false/\w.frozen? ⟨b,9,none⟩=false/\w.frozen? ⟨b,10,none⟩=false/\w.frozen? ⟨b,11,none⟩=false/\w.frozen? ⟨b,12,none⟩=false:=⟨(h.cell (k:=0) (by decide)).2,(h.cell (k:=1) (by decide)).2,(h.cell (k:=2) (by decide)).2,(h.cell (k:=3) (by decide)).2,(h.cell (k:=4) (by decide)).2,(h.cell (k:=5) (by decide)).2,(h.cell (k:=6) (by decide)).2,(h.cell (k:=7) (by decide)).2,(h.cell (k:=8) (by decide)).2,(h.cell (k:=9) (by decide)).2,(h.cell (k:=10) (by decide)).2,(h.cell (k:=11) (by decide)).2,(h.cell (k:=12) (by decide)).2⟩
theorem Arr.same{w:World}{b:Nat}{f:Nat->Int}(h:Arr w b f){k:Nat}(hk:k<13):Arr (w.setCell ⟨b,k,none⟩ (.int .i64 (f k))) b f/\Turn (fun q=>q=b) w (w.setCell ⟨b,k,none⟩ (.int .i64 (f k))):=
 ⟨(h.put hk (f k)).1.congr fun j _=>by by_cases e:j=k <;> simp[e],(h.put hk (f k)).2⟩
theorem Arr.sames{w:World}{b:Nat}{f:Nat->Int}(h:Arr w b f):Arr (((((((((((((w.setCell ⟨b,0,none⟩ (.int .i64 (f 0))).setCell ⟨b,1,none⟩ (.int .i64 (f 1))).setCell ⟨b,2,none⟩ (.int .i64 (f 2))).setCell ⟨b,3,none⟩ (.int .i64 (f 3))).setCell ⟨b,4,none⟩ (.int .i64 (f 4))).setCell ⟨b,5,none⟩ (.int .i64 (f 5))).setCell ⟨b,6,none⟩ (.int .i64 (f 6))).setCell ⟨b,7,none⟩ (.int .i64 (f 7))).setCell ⟨b,8,none⟩ (.int .i64 (f 8))).setCell ⟨b,9,none⟩ (.int .i64 (f 9))).setCell ⟨b,10,none⟩ (.int .i64 (f 10))).setCell ⟨b,11,none⟩ (.int .i64 (f 11))).setCell ⟨b,12,none⟩ (.int .i64 (f 12))) b f/\Turn (fun q=>q=b) w (((((((((((((w.setCell ⟨b,0,none⟩ (.int .i64 (f 0))).setCell ⟨b,1,none⟩ (.int .i64 (f 1))).setCell ⟨b,2,none⟩ (.int .i64 (f 2))).setCell ⟨b,3,none⟩ (.int .i64 (f 3))).setCell ⟨b,4,none⟩ (.int .i64 (f 4))).setCell ⟨b,5,none⟩ (.int .i64 (f 5))).setCell ⟨b,6,none⟩ (.int .i64 (f 6))).setCell ⟨b,7,none⟩ (.int .i64 (f 7))).setCell ⟨b,8,none⟩ (.int .i64 (f 8))).setCell ⟨b,9,none⟩ (.int .i64 (f 9))).setCell ⟨b,10,none⟩ (.int .i64 (f 10))).setCell ⟨b,11,none⟩ (.int .i64 (f 11))).setCell ⟨b,12,none⟩ (.int .i64 (f 12))):=by
 have h0:=h.same (k:=0) (by decide);have h1:=h0.1.same (k:=1) (by decide);have h2:=h1.1.same (k:=2) (by decide);have h3:=h2.1.same (k:=3) (by decide);have h4:=h3.1.same (k:=4) (by decide);have h5:=h4.1.same (k:=5) (by decide);have h6:=h5.1.same (k:=6) (by decide);have h7:=h6.1.same (k:=7) (by decide);have h8:=h7.1.same (k:=8) (by decide);have h9:=h8.1.same (k:=9) (by decide);have h10:=h9.1.same (k:=10) (by decide);have h11:=h10.1.same (k:=11) (by decide);have h12:=h11.1.same (k:=12) (by decide);exact⟨h12.1,((((((((((((h0.2.trans h1.2 fun _ _ h=>h).trans h2.2 fun _ _ h=>h).trans h3.2 fun _ _ h=>h).trans h4.2 fun _ _ h=>h).trans h5.2 fun _ _ h=>h).trans h6.2 fun _ _ h=>h).trans h7.2 fun _ _ h=>h).trans h8.2 fun _ _ h=>h).trans h9.2 fun _ _ h=>h).trans h10.2 fun _ _ h=>h).trans h11.2 fun _ _ h=>h).trans h12.2 fun _ _ h=>h)⟩
def Gb(E A:Nat)(x:E2)(f:Nat->Int)(w w':World):Prop:=Turn (fun q=>q=E∨q=A) w w'/\(Arr w A f->Arr w' A f)/\((∃ u v,Two2 w E u v)->∃u v,Two2 w' E u v)/\(Two2 w E (.int .i64 x.1) (.int .i64 x.2)->Two2 w' E (.int .i64 x.1) (.int .i64 x.2))
theorem Gb.refl(E A:Nat)(x:E2)(f:Nat->Int)(w:World):Gb E A x f w w:=⟨Turn.refl _ _,fun h=>h,fun h=>h,fun h=>h⟩
theorem Gb.trans{E A:Nat}{x:E2}{f:Nat->Int}{w w1 w2:World}(h:Gb E A x f w w1)(h2:Gb E A x f w1 w2):Gb E A x f w w2:=⟨h.1.trans h2.1 fun _ _ h=>h,fun ha=>h2.2.1 (h.2.1 ha),fun ha=>h2.2.2.1 (h.2.2.1 ha),fun ha=>h2.2.2.2 (h.2.2.2 ha)⟩
theorem Gb.arr{E A:Nat}{x:E2}{f:Nat->Int}{w w':World}(hA:Arr w A f->Arr w' A f)(ht:Turn (fun q=>q=A) w w')(hne:E≠A)(hE:E<w.heap.size):Gb E A x f w w':=
 ⟨ht.mono fun _ h=>.inr h,hA,fun⟨u,v,h⟩=>⟨u,v,h.turn ht hE hne⟩,fun h=>h.turn ht hE hne⟩
theorem Gb.put{E A:Nat}{x:E2}{f:Nat->Int}{w:World}(hE:∃u v,Two2 w E u v)(hne:E≠A):Gb E A x f w ((w.setCell ⟨E,0,none⟩ (.int .i64 x.1)).setCell ⟨E,1,none⟩ (.int .i64 x.2))/\Two2 ((w.setCell ⟨E,0,none⟩ (.int .i64 x.1)).setCell ⟨E,1,none⟩ (.int .i64 x.2)) E (.int .i64 x.1) (.int .i64 x.2):=by
 obtain⟨u,v,h⟩:=hE;have hp:=h.put (.int .i64 x.1) (.int .i64 x.2);exact⟨⟨hp.2.mono fun _ h=>.inl h,fun ha=>ha.turn hp.2 (fun e=>hne e.symm),fun _=>⟨_,_,hp.1⟩,fun _=>hp.1⟩,hp.1⟩
def Ga(A:Nat)(f g:Nat->Int)(w w':World):Prop:=Turn (fun q=>q=A) w w'/\(Arr w A f->Arr w' A f∨Arr w' A g)/\(Arr w A g->Arr w' A g)
theorem Ga.refl(A:Nat)(f g:Nat->Int)(w:World):Ga A f g w w:=⟨Turn.refl _ _,fun h=>.inl h,fun h=>h⟩
theorem Ga.trans{A:Nat}{f g:Nat->Int}{w w1 w2:World}(h:Ga A f g w w1)(h2:Ga A f g w1 w2):Ga A f g w w2:=⟨h.1.trans h2.1 fun _ _ h=>h,fun ha=>(h.2.1 ha).elim h2.2.1 fun h3=>.inr (h2.2.2 h3),fun ha=>h2.2.2 (h.2.2 ha)⟩
theorem Ga.of_below{A:Nat}{f g:Nat->Int}{w w':World}(h:Below w.heap.size w w'):Ga A f g w w':=⟨Turn.of_below h,fun ha=>.inl (ha.later h),fun ha=>ha.later h⟩
def wayD(R:Nat)(z:E2)(i k:Nat):Int:=if i<k/\k<=R then(digE (upN (R-k) z):Int)else 0
theorem wayD_all(R:Nat)(z:E2){k:Nat}(_hk:k<13)(_hR:R<=12):wayD R z R k=0:=by unfold wayD;rw[if_neg (by omega)]
theorem wayD_step{R:Nat}{z:E2}{i k:Nat}(hi:i<R):(if k=i+1 then(digE (upN (R-(i+1)) z):Int)else wayD R z (i+1) k)=wayD R z i k:=by
 unfold wayD;by_cases h:k=i+1
 ·subst h;rw[if_pos rfl,if_pos (by omega)]
 ·rw[if_neg h]
  by_cases h2:i<k/\k<=R
  ·rw[if_pos h2,if_pos (by omega)]
  ·rw[if_neg h2,if_neg (by omega)]
theorem upN_sm{h:Int}(hh:2<=h){z:E2}(hz:Sm h z)(k:Nat):Sm h (upN k z):=by
 induction k with
 |zero=>exact hz
 |succ k ih=>rw[upN_up];exact up_sm hh ih
def Way(w:World)(r:Int)(z:E2)(e:Ending)(w':World):Prop:=
 ∃(b:E2) (f:Nat->Int),e=.returned (.tuple #[vE b,vD f,.bool (okB r z)])/\(okB r z=true->b=upN r.toNat z/\∀k,0<k->k<=r.toNat->f k=(digE (upN (r.toNat-k) z):Int))/\Below w.heap.size w w'
theorem way_no(r:Int)(z:E2)(hs:¬shapeB r z=true)(w:World):Calls Tryz.prog 106 #[vC r z] w (Way w r z):=by
 have HS:=Hd (shape_any r z);have hs0:shapeB r z=false:=by simpa using hs
 have HOK:Hid (okB r z=false):=by show _=_;unfold okB;rw[hs0];rfl
 rw[hs0]at HS;clear hs hs0;have HP:Hid (∀ w',Below w.heap.size w w'->Way w r z (.returned (.tuple #[.agg #[.int .i64 0,.int .i64 0],vD fun _=>0,.bool false])) w'):=fun w' hb=>⟨(0,0),fun _=>0,by rw[HOK.out],(fun h=>by rw[HOK.out]at h;cases h),hb⟩
 simp only[vC]at*
 go_enter Tryz.func106,Tryz.ntmps106
 go_wp2_with fail
 refine(HS.out _).mono ?_;rintro e w1 ⟨rfl,hb1⟩;have hz1:=hb1.size;simp at hz1;have HU:Hid (Two2 w1 (w.heap.size+1) (.int .i64 0) (.int .i64 0)):=(Two2.of_row (t:=37) (by rw[Below.heap_alloc _ _ _ (by simp)];exact heap_new _ _ _ (by simp))).later (by simp) hb1;have HA:Hid (Arr w1 (w.heap.size+2) fun _=>0):=(Arr.zero (heap_new _ _ _ (by simp))).later hb1;have HB:Hid (Below w.heap.size w w1):=((br.alloc lr _).alloc (by simp) _).alloc (by simp;omega) _ |>.trans (hb1.mono (by simp;omega))
 have hs1:w.heap.size+1<w1.heap.size:=by omega
 have hs2:w.heap.size+1+1<w1.heap.size:=by omega
 clear hb1 hz1;go_wp2;refine wp_region_end 4 (Gb (w.heap.size+1) (w.heap.size+2) (0,0) fun _=>0) (fun qi_ qv_ qw_=>qv_=([.agg #[.int .i64 0,.int .i64 0],vD fun _=>0,undef,undef]:List Value).getD qi_ undef/\(qi_=2->(fun q=>Two2 q (w.heap.size+1) (.int .i64 0) (.int .i64 0)) qw_)) (by kernel_rfl) (by kernel_rfl) (by kernel_rfl) (fun _=>Gb.refl _ _ _ _ _) (fun _ _ _ h1 h2=>h1.trans h2) (fun _ _ _ _ _ h2 h=>⟨h.1,fun e=>h2.2.2.2 (h.2 e)⟩) ?_;simp only[List.take_succ_cons,List.take_zero,List.drop_succ_cons,List.drop_zero];refine inv_cons (fun wx hg hd=>?_) (fun v0=>?_)
 ·clear hd
  obtain⟨⟨t1,t2⟩,_⟩:=hg.2.2.2 HU.out;go_wp2
  first|exact⟨_,rfl,Gb.refl _ _ _ _ _,rfl⟩|exact⟨_,rfl,Gb.refl _ _ _ _ _,rfl,fun h=>absurd h (by simp)⟩
 (try simp only[pq])
 refine inv_cons (fun wx hg hd=>?_) (fun v1=>?_)
 ·clear hd
  obtain⟨t0,t1,t2,t3,t4,t5,t6,t7,t8,t9,t10,t11,t12⟩:=(hg.2.1 HA.out).cells;go_wp2
  first|exact⟨_,rfl,Gb.refl _ _ _ _ _,rfl⟩|exact⟨_,rfl,Gb.refl _ _ _ _ _,rfl,fun h=>absurd h (by simp)⟩
 (try simp only[pq])
 refine inv_cons (fun wx hg hd=>?_) (fun v2=>?_)
 ·(try(have ee:v0=(.agg #[.int .i64 0,.int .i64 0]:Value):=(hd 0 (by simp) (by decide)).1;subst ee))
  clear hd;obtain⟨u,v,⟨t1,t2⟩,t3,t4⟩:=hg.2.2.1 ⟨_,_,HU.out⟩;have hP:=Gb.put (E:=w.heap.size+1) (A:=w.heap.size+2) (x:=(0,0)) (f:=fun _=>0) (w:=wx) ⟨u,v,⟨t1,t2⟩,t3,t4⟩ (by omega);go_wp2;exact⟨_,rfl,hP.1,rfl,hP.2⟩
 (try simp only[pq])
 refine inv_cons (fun wx hg hd=>?_) (fun v3=>?_)
 ·(try(have ee:v1=(vD fun _=>0:Value):=(hd 1 (by simp) (by decide)).1;subst ee))
  clear hd;obtain⟨t0,t1,t2,t3,t4,t5,t6,t7,t8,t9,t10,t11,t12⟩:=(hg.2.1 HA.out).cells;obtain⟨f0,f1,f2,f3,f4,f5,f6,f7,f8,f9,f10,f11,f12⟩:=(hg.2.1 HA.out).frozen;have hP:=(hg.2.1 HA.out).sames;have hEl:w.heap.size+1<wx.heap.size:=(by have:=hg.1.2.2.2.1;simp at this;omega);go_wp2
  first|exact⟨_,rfl,Gb.arr (fun _=>hP.1) hP.2 (by omega) hEl,rfl⟩|exact⟨_,rfl,Gb.arr (fun _=>hP.1) hP.2 (by omega) hEl,rfl,fun h=>absurd h (by simp)⟩
 (try simp only[pq])
 refine inv_done (fun wx hg hd=>?_)
 (have ee:v0=(.agg #[.int .i64 0,.int .i64 0]:Value):=(hd 0 (by simp)).1;subst ee)
 (have ee:v1=(vD fun _=>0:Value):=(hd 1 (by simp)).1;subst ee)
 (have ee:v2=(undef:Value):=(hd 2 (by simp)).1;subst ee)
 (have ee:v3=(undef:Value):=(hd 3 (by simp)).1;subst ee)
 have hE:=(hd 2 (by simp)).2 rfl;clear hd
 (try go_simp)
 have hAx:Arr wx (w.heap.size+2) fun _=>0:=hg.2.1 HA.out
 have hBx:Below w.heap.size w wx:=HB.out.trans (Turn.below (B:=w.heap.size) hg.1 (by show _<=w1.heap.size;omega) fun q hq e=>by rcases e with e|e <;> omega);have HF:=Hd (HP.out wx hBx);obtain⟨⟨y0,y1⟩,_,_⟩:=hE;obtain⟨t0,t1,t2,t3,t4,t5,t6,t7,t8,t9,t10,t11,t12⟩:=hAx.cells;clear hAx hBx HA HU hg HP;go_wp2;refine only_done ?_;go_wp2;exact bodyPost_ret (v:=.tuple #[.agg #[.int .i64 0,.int .i64 0],vD fun _=>0,.bool false]) (by simp[results,Tryz.results106,go_sem, *]) rfl HF.out
theorem way_yes(r:Int)(z:E2)(hs:shapeB r z=true)(w:World):Calls Tryz.prog 106 #[vC r z] w (Way w r z):=by
 have HS:=Hd (shape_any r z)
 ·have hs2:=(shapeB_iff r z).1 hs
  obtain⟨R,rfl⟩:∃R:Nat,r=R:=⟨r.toNat,by omega⟩;have hR:R<=12:=by omega
  have HOK:Hid (okB R z=baseB (upN R z)):=by show _=_;unfold okB;rw[hs];rfl
  rw[hs]at HS;have HSM:Hid (Sm 1099511627776 z):=by show Sm _ _;unfold Sm;omega
  clear hs hs2;obtain⟨a,b⟩:=z;simp only[vC]at*
  go_enter Tryz.func106,Tryz.ntmps106
  go_wp2_with fail
  refine(HS.out _).mono ?_;rintro e w1 ⟨rfl,hb1⟩;have hz1:=hb1.size;simp at hz1;have hr:=hb1.block w.heap.size (by simp;omega);rw[Below.heap_alloc _ _ _ (by simp;omega),Below.heap_alloc _ _ _ (by simp),heap_new _ _ _ rfl]at hr;have c0:w1.cell? ⟨w.heap.size,0,none⟩=some (.int .i64 R):=cell_of_row _ _ 0 _ _ _ hr;have c1:w1.cell? ⟨w.heap.size,1,none⟩=some (.int .i64 a):=cell_of_row _ _ 1 _ _ _ hr;have c2:w1.cell? ⟨w.heap.size,2,none⟩=some (.int .i64 b):=cell_of_row _ _ 2 _ _ _ hr;have u0:Two2 w1 (w.heap.size+1) (.int .i64 0) (.int .i64 0):=(Two2.of_row (t:=37) (by rw[Below.heap_alloc _ _ _ (by simp)];exact heap_new _ _ _ (by simp))).later (by simp) hb1;have a0:Arr w1 (w.heap.size+2) fun _=>0:=(Arr.zero (heap_new _ _ _ (by simp))).later hb1
  have hB1:Below w.heap.size w w1:=((br.alloc lr _).alloc (by simp) _).alloc (by simp;omega) _ |>.trans (hb1.mono (by simp;omega))
  have hal:Below w1.heap.size w1 (w1.alloc (.cells #[.int .i64 a,.int .i64 b] 37)):=br.alloc lr _;have hsz:=World.size_alloc w1 (.cells #[.int .i64 a,.int .i64 b] 37);have U:=Hd (u0.later (by omega) hal);have A:=Hd (a0.later hal);have B:=Hd (hB1.trans (hal.mono (by omega)));have Z:Hid (Two2 (w1.alloc (.cells #[.int .i64 a,.int .i64 b] 37)) w1.heap.size (.int .i64 a) (.int .i64 b)):=Two2.of_row (t:=37) (heap_new _ _ _ rfl);have hz2:w.heap.size+2<w1.heap.size:=by omega
  have d0:(w1.alloc (.cells #[.int .i64 a,.int .i64 b] 37)).cell? ⟨w.heap.size,0,none⟩=some (.int .i64 R):=(hal.cell (p:=⟨w.heap.size,0,none⟩) (by show w.heap.size<w1.heap.size;omega)).trans c0;clear hb1 hr u0 a0 hB1 hal hz1
  go_upto_region 4 with(fail)
  generalize w1.alloc (.cells #[.int .i64 a,.int .i64 b] 37)=w2 at *;obtain⟨zb,hzb⟩:∃zb,w1.heap.size=zb:=⟨_,rfl⟩;rw[hzb]at Z hz2 hsz ⊢;clear hzb c0 c1 c2
  go_upto_region 5 with(fail)
  clear d0;obtain⟨y,hy⟩:∃y:E2,y=(a,b):=⟨_,rfl⟩;have HY:=Hd hy;rw[<- hy]at HOK HSM;have Z:Hid (Two2 w2 zb (.int .i64 (upN 0 y).1) (.int .i64 (upN 0 y).2)):=by rw[hy];exact Z.out
  have HPOST:Hid (∀ e w',Way w R y e w'->Way w R (a,b) e w'):=fun e w' h=>by rw[<- hy];exact h
  clear hy;go_wp2
  go_loopw [6] (fun i wr=>∃j:Nat,j<=R/\i=.int .i64 j/\Hid (Two2 wr zb (.int .i64 (upN (R-j) y).1) (.int .i64 (upN (R-j) y).2)/\Arr wr (w.heap.size+2) (wayD R y j)/\Two2 wr (w.heap.size+1) (.int .i64 0) (.int .i64 0)/\Below w.heap.size w wr)/\w2.heap.size<=wr.heap.size) (fun i _=>(intOf i).toNat)
  case atStart=>exact⟨R,lr,rfl,⟨by rw[Nat.sub_self];exact Z.out,A.out.congr fun k hk=>(wayD_all R y hk hR).symm,U.out,B.out⟩,lr⟩
  case round=>
   obtain⟨j,hj,rfl,HI,hws⟩:=hrel;clear Z A U B;by_cases hj0:j=0
   ·subst hj0
    rw[Nat.sub_zero]at HI;obtain⟨⟨⟨z0,z1⟩,z2,z3⟩,hA,hU,hB⟩:=HI.out;have hzw:zb<wr.heap.size:=by omega
    have N1:=Hd (in_any (upN R y).1);have N2:=Hd (in_any (upN R y).2);have HBB:Hid (baseB (upN R y)=((decide (-512<=(upN R y).1)&&decide ((upN R y).1<512))&&(decide (-512<=(upN R y).2)&&decide ((upN R y).2<512)))):=rfl;have HD:Hid (∀ k,0<k->k<=R->wayD R y 0 k=(digE (upN (R-k) y):Int)):=fun k h0 h1=>by unfold wayD;rw[if_pos ⟨h0,h1⟩]
    obtain⟨x,hx⟩:∃x,upN R y=x:=⟨_,rfl⟩;obtain⟨f,hf⟩:∃f,wayD R y 0=f:=⟨_,rfl⟩;rw[hf]at hA HD;rw[hx]at N1 N2 HBB z0 z1 HOK;have HXE:=Hd hx;have HA:=Hd hA;have HU:=Hd hU;have HB:=Hd hB;have HZ:Hid (Two2 wr zb (.int .i64 x.1) (.int .i64 x.2)):=⟨⟨z0,z1⟩,z2,z3⟩;clear HI hA hU hB hx hf HS;generalize(decide (-512<=x.1)&&decide (x.1<512))=p at *;generalize(decide (-512<=x.2)&&decide (x.2<512))=q at *;have HX:Hid (∀ wx,Turn (fun q=>q=w.heap.size+1∨q=w.heap.size+2) wr.drew wx->Two2 wx zb (.int .i64 x.1) (.int .i64 x.2)):=fun wx hx=>Two2.turn (w:=wr.drew) HZ.out hx hzw (by omega)
    cases p
    ·clear z0 z1 z2 z3
     go_wp2;refine wp_region_end 14 (Gb (w.heap.size+1) (w.heap.size+2) x f) (fun qi_ qv_ qw_=>qv_=([.agg #[.int .i64 x.1,.int .i64 x.2],vD f,.func (.func 150) #[] #[],.pointer (some ⟨zb,0,none⟩),.int .i64 x.1,.bool false,.bool false,undef,undef,undef,undef,.bool false,undef,undef]:List Value).getD qi_ undef/\(qi_=12->(fun q=>Two2 q (w.heap.size+1) (.int .i64 x.1) (.int .i64 x.2)) qw_)) (by kernel_rfl) (by kernel_rfl) (by kernel_rfl) (fun _=>Gb.refl _ _ _ _ _) (fun _ _ _ h1 h2=>h1.trans h2) (fun _ _ _ _ _ h2 h=>⟨h.1,fun e=>h2.2.2.2 (h.2 e)⟩) ?_;simp only[List.take_succ_cons,List.take_zero,List.drop_succ_cons,List.drop_zero];refine inv_cons (fun wx hg hd=>?_) (fun v0=>?_)
     ·clear hd
      obtain⟨⟨t1,t2⟩,_⟩:=HX.out _ hg.1;go_wp2
      first|exact⟨_,rfl,Gb.refl _ _ _ _ _,rfl⟩|exact⟨_,rfl,Gb.refl _ _ _ _ _,rfl,fun h=>absurd h (by simp)⟩
     (try simp only[pq])
     refine inv_cons (fun wx hg hd=>?_) (fun v1=>?_)
     ·clear hd
      obtain⟨t0,t1,t2,t3,t4,t5,t6,t7,t8,t9,t10,t11,t12⟩:=(hg.2.1 HA.out).cells;go_wp2
      first|exact⟨_,rfl,Gb.refl _ _ _ _ _,rfl⟩|exact⟨_,rfl,Gb.refl _ _ _ _ _,rfl,fun h=>absurd h (by simp)⟩
     (try simp only[pq])
     refine inv_cons (fun wx hg hd=>?_) (fun v2=>?_)
     ·clear hd
      go_wp2
      first|exact⟨_,rfl,Gb.refl _ _ _ _ _,rfl⟩|exact⟨_,rfl,Gb.refl _ _ _ _ _,rfl,fun h=>absurd h (by simp)⟩
     (try simp only[pq])
     refine inv_cons (fun wx hg hd=>?_) (fun v3=>?_)
     ·clear hd
      go_wp2
      first|exact⟨_,rfl,Gb.refl _ _ _ _ _,rfl⟩|exact⟨_,rfl,Gb.refl _ _ _ _ _,rfl,fun h=>absurd h (by simp)⟩
     (try simp only[pq])
     refine inv_cons (fun wx hg hd=>?_) (fun v4=>?_)
     ·(try(have ee:v3=(.pointer (some ⟨zb,0,none⟩):Value):=(hd 3 (by simp) (by decide)).1;subst ee))
      clear hd;obtain⟨⟨t1,t2⟩,_⟩:=HX.out _ hg.1;go_wp2
      first|exact⟨_,rfl,Gb.refl _ _ _ _ _,rfl⟩|exact⟨_,rfl,Gb.refl _ _ _ _ _,rfl,fun h=>absurd h (by simp)⟩
     (try simp only[pq])
     refine inv_cons (fun wx hg hd=>?_) (fun v5=>?_)
     ·(try(have ee:v2=(.func (.func 150) #[] #[]:Value):=(hd 2 (by simp) (by decide)).1;subst ee))
      (try(have ee:v4=(.int .i64 x.1:Value):=(hd 4 (by simp) (by decide)).1;subst ee))
      clear hd
      go_wp2_with fail
      refine(N1.out _).mono ?_;rintro e w' ⟨rfl,rfl⟩;go_wp2
      first|exact⟨_,rfl,Gb.refl _ _ _ _ _,rfl⟩|exact⟨_,rfl,Gb.refl _ _ _ _ _,rfl,fun h=>absurd h (by simp)⟩
     (try simp only[pq])
     refine inv_cons (fun wx hg hd=>?_) (fun v6=>?_)
     ·(try(have ee:v5=(.bool false:Value):=(hd 5 (by simp) (by decide)).1;subst ee))
      clear hd;go_wp2
      first|exact⟨_,rfl,Gb.refl _ _ _ _ _,rfl⟩|exact⟨_,rfl,Gb.refl _ _ _ _ _,rfl,fun h=>absurd h (by simp)⟩
     (try simp only[pq])
     refine inv_cons (fun wx hg hd=>?_) (fun v7=>?_)
     ·(try(have ee:v6=(.bool false:Value):=(hd 6 (by simp) (by decide)).1;subst ee))
      clear hd;go_wp2
      first|exact⟨_,rfl,Gb.refl _ _ _ _ _,rfl⟩|exact⟨_,rfl,Gb.refl _ _ _ _ _,rfl,fun h=>absurd h (by simp)⟩
     (try simp only[pq])
     refine inv_cons (fun wx hg hd=>?_) (fun v8=>?_)
     ·(try(have ee:v6=(.bool false:Value):=(hd 6 (by simp) (by decide)).1;subst ee))
      clear hd;go_wp2
      first|exact⟨_,rfl,Gb.refl _ _ _ _ _,rfl⟩|exact⟨_,rfl,Gb.refl _ _ _ _ _,rfl,fun h=>absurd h (by simp)⟩
     (try simp only[pq])
     refine inv_cons (fun wx hg hd=>?_) (fun v9=>?_)
     ·(try(have ee:v6=(.bool false:Value):=(hd 6 (by simp) (by decide)).1;subst ee))
      (try(have ee:v8=(undef:Value):=(hd 8 (by simp) (by decide)).1;subst ee))
      clear hd;go_wp2
      first|exact⟨_,rfl,Gb.refl _ _ _ _ _,rfl⟩|exact⟨_,rfl,Gb.refl _ _ _ _ _,rfl,fun h=>absurd h (by simp)⟩
     (try simp only[pq])
     refine inv_cons (fun wx hg hd=>?_) (fun v10=>?_)
     ·(try(have ee:v6=(.bool false:Value):=(hd 6 (by simp) (by decide)).1;subst ee))
      (try(have ee:v7=(undef:Value):=(hd 7 (by simp) (by decide)).1;subst ee))
      (try(have ee:v9=(undef:Value):=(hd 9 (by simp) (by decide)).1;subst ee))
      clear hd;go_wp2
      first|exact⟨_,rfl,Gb.refl _ _ _ _ _,rfl⟩|exact⟨_,rfl,Gb.refl _ _ _ _ _,rfl,fun h=>absurd h (by simp)⟩
     (try simp only[pq])
     refine inv_cons (fun wx hg hd=>?_) (fun v11=>?_)
     ·(try(have ee:v6=(.bool false:Value):=(hd 6 (by simp) (by decide)).1;subst ee))
      (try(have ee:v10=(undef:Value):=(hd 10 (by simp) (by decide)).1;subst ee))
      clear hd;go_wp2
      first|exact⟨_,rfl,Gb.refl _ _ _ _ _,rfl⟩|exact⟨_,rfl,Gb.refl _ _ _ _ _,rfl,fun h=>absurd h (by simp)⟩
     (try simp only[pq])
     refine inv_cons (fun wx hg hd=>?_) (fun v12=>?_)
     ·(try(have ee:v0=(.agg #[.int .i64 x.1,.int .i64 x.2]:Value):=(hd 0 (by simp) (by decide)).1;subst ee))
      clear hd;obtain⟨u,v,⟨t1,t2⟩,t3,t4⟩:=hg.2.2.1 ⟨_,_,HU.out⟩;have hP:=Gb.put (E:=w.heap.size+1) (A:=w.heap.size+2) (x:=x) (f:=f) (w:=wx) ⟨u,v,⟨t1,t2⟩,t3,t4⟩ (by omega);go_wp2;exact⟨_,rfl,hP.1,rfl,hP.2⟩
     (try simp only[pq])
     refine inv_cons (fun wx hg hd=>?_) (fun v13=>?_)
     ·(try(have ee:v1=(vD f:Value):=(hd 1 (by simp) (by decide)).1;subst ee))
      clear hd;obtain⟨t0,t1,t2,t3,t4,t5,t6,t7,t8,t9,t10,t11,t12⟩:=(hg.2.1 HA.out).cells;obtain⟨f0,f1,f2,f3,f4,f5,f6,f7,f8,f9,f10,f11,f12⟩:=(hg.2.1 HA.out).frozen;have hP:=(hg.2.1 HA.out).sames;have hEl:w.heap.size+1<wx.heap.size:=(by have:=hg.1.2.2.2.1;simp at this;omega);go_wp2
      first|exact⟨_,rfl,Gb.arr (fun _=>hP.1) hP.2 (by omega) hEl,rfl⟩|exact⟨_,rfl,Gb.arr (fun _=>hP.1) hP.2 (by omega) hEl,rfl,fun h=>absurd h (by simp)⟩
     (try simp only[pq])
     refine inv_done (fun wx hg hd=>?_)
     (have ee:v0=(.agg #[.int .i64 x.1,.int .i64 x.2]:Value):=(hd 0 (by simp)).1;subst ee)
     (have ee:v1=(vD f:Value):=(hd 1 (by simp)).1;subst ee)
     (have ee:v2=(.func (.func 150) #[] #[]:Value):=(hd 2 (by simp)).1;subst ee)
     (have ee:v3=(.pointer (some ⟨zb,0,none⟩):Value):=(hd 3 (by simp)).1;subst ee)
     (have ee:v4=(.int .i64 x.1:Value):=(hd 4 (by simp)).1;subst ee)
     (have ee:v5=(.bool false:Value):=(hd 5 (by simp)).1;subst ee)
     (have ee:v6=(.bool false:Value):=(hd 6 (by simp)).1;subst ee)
     (have ee:v7=(undef:Value):=(hd 7 (by simp)).1;subst ee)
     (have ee:v8=(undef:Value):=(hd 8 (by simp)).1;subst ee)
     (have ee:v9=(undef:Value):=(hd 9 (by simp)).1;subst ee)
     (have ee:v10=(undef:Value):=(hd 10 (by simp)).1;subst ee)
     (have ee:v11=(.bool false:Value):=(hd 11 (by simp)).1;subst ee)
     (have ee:v12=(undef:Value):=(hd 12 (by simp)).1;subst ee)
     (have ee:v13=(undef:Value):=(hd 13 (by simp)).1;subst ee)
     have hE:=(hd 12 (by simp)).2 rfl;clear hd
     (try go_simp)
     have hAx:Arr wx (w.heap.size+2) f:=hg.2.1 HA.out;have hBx:Below w.heap.size w wx:=HB.out.trans (Turn.below (B:=w.heap.size) hg.1 (by show _<=wr.heap.size;omega) fun q hq e=>by rcases e with e|e <;> omega);have HBX:=Hd hBx;obtain⟨⟨y0,y1⟩,_,_⟩:=hE;obtain⟨t0,t1,t2,t3,t4,t5,t6,t7,t8,t9,t10,t11,t12⟩:=hAx.cells;clear hAx hBx HA HZ HX HU hg;go_wp2;refine only_done ?_;go_wp2;exact bodyPost_ret (v:=.tuple #[.agg #[.int .i64 x.1,.int .i64 x.2],vD f,.bool false]) (by simp[results,Tryz.results106,go_sem, *]) rfl (HPOST.out _ _ ⟨x,f,by rw[HOK.out,HBB.out];rfl,fun _=>⟨HXE.out.symm,HD.out⟩,HBX.out⟩)
    ·clear z0 z1 z2 z3
     go_wp2;refine wp_region_end 14 (Gb (w.heap.size+1) (w.heap.size+2) x f) (fun qi_ qv_ qw_=>qv_=([.agg #[.int .i64 x.1,.int .i64 x.2],vD f,.func (.func 150) #[] #[],.pointer (some ⟨zb,0,none⟩),.int .i64 x.1,.bool true,.bool true,.func (.func 150) #[] #[],.pointer (some ⟨zb,1,none⟩),.int .i64 x.2,.bool q,.bool q,undef,undef]:List Value).getD qi_ undef/\(qi_=12->(fun q=>Two2 q (w.heap.size+1) (.int .i64 x.1) (.int .i64 x.2)) qw_)) (by kernel_rfl) (by kernel_rfl) (by kernel_rfl) (fun _=>Gb.refl _ _ _ _ _) (fun _ _ _ h1 h2=>h1.trans h2) (fun _ _ _ _ _ h2 h=>⟨h.1,fun e=>h2.2.2.2 (h.2 e)⟩) ?_;simp only[List.take_succ_cons,List.take_zero,List.drop_succ_cons,List.drop_zero];refine inv_cons (fun wx hg hd=>?_) (fun v0=>?_)
     ·clear hd
      obtain⟨⟨t1,t2⟩,_⟩:=HX.out _ hg.1;go_wp2
      first|exact⟨_,rfl,Gb.refl _ _ _ _ _,rfl⟩|exact⟨_,rfl,Gb.refl _ _ _ _ _,rfl,fun h=>absurd h (by simp)⟩
     (try simp only[pq])
     refine inv_cons (fun wx hg hd=>?_) (fun v1=>?_)
     ·clear hd
      obtain⟨t0,t1,t2,t3,t4,t5,t6,t7,t8,t9,t10,t11,t12⟩:=(hg.2.1 HA.out).cells;go_wp2
      first|exact⟨_,rfl,Gb.refl _ _ _ _ _,rfl⟩|exact⟨_,rfl,Gb.refl _ _ _ _ _,rfl,fun h=>absurd h (by simp)⟩
     (try simp only[pq])
     refine inv_cons (fun wx hg hd=>?_) (fun v2=>?_)
     ·clear hd
      go_wp2
      first|exact⟨_,rfl,Gb.refl _ _ _ _ _,rfl⟩|exact⟨_,rfl,Gb.refl _ _ _ _ _,rfl,fun h=>absurd h (by simp)⟩
     (try simp only[pq])
     refine inv_cons (fun wx hg hd=>?_) (fun v3=>?_)
     ·clear hd
      go_wp2
      first|exact⟨_,rfl,Gb.refl _ _ _ _ _,rfl⟩|exact⟨_,rfl,Gb.refl _ _ _ _ _,rfl,fun h=>absurd h (by simp)⟩
     (try simp only[pq])
     refine inv_cons (fun wx hg hd=>?_) (fun v4=>?_)
     ·(try(have ee:v3=(.pointer (some ⟨zb,0,none⟩):Value):=(hd 3 (by simp) (by decide)).1;subst ee))
      clear hd;obtain⟨⟨t1,t2⟩,_⟩:=HX.out _ hg.1;go_wp2
      first|exact⟨_,rfl,Gb.refl _ _ _ _ _,rfl⟩|exact⟨_,rfl,Gb.refl _ _ _ _ _,rfl,fun h=>absurd h (by simp)⟩
     (try simp only[pq])
     refine inv_cons (fun wx hg hd=>?_) (fun v5=>?_)
     ·(try(have ee:v2=(.func (.func 150) #[] #[]:Value):=(hd 2 (by simp) (by decide)).1;subst ee))
      (try(have ee:v4=(.int .i64 x.1:Value):=(hd 4 (by simp) (by decide)).1;subst ee))
      clear hd
      go_wp2_with fail
      refine(N1.out _).mono ?_;rintro e w' ⟨rfl,rfl⟩;go_wp2
      first|exact⟨_,rfl,Gb.refl _ _ _ _ _,rfl⟩|exact⟨_,rfl,Gb.refl _ _ _ _ _,rfl,fun h=>absurd h (by simp)⟩
     (try simp only[pq])
     refine inv_cons (fun wx hg hd=>?_) (fun v6=>?_)
     ·(try(have ee:v5=(.bool true:Value):=(hd 5 (by simp) (by decide)).1;subst ee))
      clear hd;go_wp2
      first|exact⟨_,rfl,Gb.refl _ _ _ _ _,rfl⟩|exact⟨_,rfl,Gb.refl _ _ _ _ _,rfl,fun h=>absurd h (by simp)⟩
     (try simp only[pq])
     refine inv_cons (fun wx hg hd=>?_) (fun v7=>?_)
     ·(try(have ee:v6=(.bool true:Value):=(hd 6 (by simp) (by decide)).1;subst ee))
      clear hd;go_wp2
      first|exact⟨_,rfl,Gb.refl _ _ _ _ _,rfl⟩|exact⟨_,rfl,Gb.refl _ _ _ _ _,rfl,fun h=>absurd h (by simp)⟩
     (try simp only[pq])
     refine inv_cons (fun wx hg hd=>?_) (fun v8=>?_)
     ·(try(have ee:v6=(.bool true:Value):=(hd 6 (by simp) (by decide)).1;subst ee))
      clear hd;go_wp2
      first|exact⟨_,rfl,Gb.refl _ _ _ _ _,rfl⟩|exact⟨_,rfl,Gb.refl _ _ _ _ _,rfl,fun h=>absurd h (by simp)⟩
     (try simp only[pq])
     refine inv_cons (fun wx hg hd=>?_) (fun v9=>?_)
     ·(try(have ee:v6=(.bool true:Value):=(hd 6 (by simp) (by decide)).1;subst ee))
      (try(have ee:v8=(.pointer (some ⟨zb,1,none⟩):Value):=(hd 8 (by simp) (by decide)).1;subst ee))
      clear hd;obtain⟨⟨t1,t2⟩,_⟩:=HX.out _ hg.1;go_wp2
      first|exact⟨_,rfl,Gb.refl _ _ _ _ _,rfl⟩|exact⟨_,rfl,Gb.refl _ _ _ _ _,rfl,fun h=>absurd h (by simp)⟩
     (try simp only[pq])
     refine inv_cons (fun wx hg hd=>?_) (fun v10=>?_)
     ·(try(have ee:v6=(.bool true:Value):=(hd 6 (by simp) (by decide)).1;subst ee))
      (try(have ee:v7=(.func (.func 150) #[] #[]:Value):=(hd 7 (by simp) (by decide)).1;subst ee))
      (try(have ee:v9=(.int .i64 x.2:Value):=(hd 9 (by simp) (by decide)).1;subst ee))
      clear hd
      go_wp2_with fail
      refine(N2.out _).mono ?_;rintro e w' ⟨rfl,rfl⟩;go_wp2
      first|exact⟨_,rfl,Gb.refl _ _ _ _ _,rfl⟩|exact⟨_,rfl,Gb.refl _ _ _ _ _,rfl,fun h=>absurd h (by simp)⟩
     (try simp only[pq])
     refine inv_cons (fun wx hg hd=>?_) (fun v11=>?_)
     ·(try(have ee:v6=(.bool true:Value):=(hd 6 (by simp) (by decide)).1;subst ee))
      (try(have ee:v10=(.bool q:Value):=(hd 10 (by simp) (by decide)).1;subst ee))
      clear hd;go_wp2
      first|exact⟨_,rfl,Gb.refl _ _ _ _ _,rfl⟩|exact⟨_,rfl,Gb.refl _ _ _ _ _,rfl,fun h=>absurd h (by simp)⟩
     (try simp only[pq])
     refine inv_cons (fun wx hg hd=>?_) (fun v12=>?_)
     ·(try(have ee:v0=(.agg #[.int .i64 x.1,.int .i64 x.2]:Value):=(hd 0 (by simp) (by decide)).1;subst ee))
      clear hd;obtain⟨u,v,⟨t1,t2⟩,t3,t4⟩:=hg.2.2.1 ⟨_,_,HU.out⟩;have hP:=Gb.put (E:=w.heap.size+1) (A:=w.heap.size+2) (x:=x) (f:=f) (w:=wx) ⟨u,v,⟨t1,t2⟩,t3,t4⟩ (by omega);go_wp2;exact⟨_,rfl,hP.1,rfl,hP.2⟩
     (try simp only[pq])
     refine inv_cons (fun wx hg hd=>?_) (fun v13=>?_)
     ·(try(have ee:v1=(vD f:Value):=(hd 1 (by simp) (by decide)).1;subst ee))
      clear hd;obtain⟨t0,t1,t2,t3,t4,t5,t6,t7,t8,t9,t10,t11,t12⟩:=(hg.2.1 HA.out).cells;obtain⟨f0,f1,f2,f3,f4,f5,f6,f7,f8,f9,f10,f11,f12⟩:=(hg.2.1 HA.out).frozen;have hP:=(hg.2.1 HA.out).sames;have hEl:w.heap.size+1<wx.heap.size:=(by have:=hg.1.2.2.2.1;simp at this;omega);go_wp2
      first|exact⟨_,rfl,Gb.arr (fun _=>hP.1) hP.2 (by omega) hEl,rfl⟩|exact⟨_,rfl,Gb.arr (fun _=>hP.1) hP.2 (by omega) hEl,rfl,fun h=>absurd h (by simp)⟩
     (try simp only[pq])
     refine inv_done (fun wx hg hd=>?_)
     (have ee:v0=(.agg #[.int .i64 x.1,.int .i64 x.2]:Value):=(hd 0 (by simp)).1;subst ee)
     (have ee:v1=(vD f:Value):=(hd 1 (by simp)).1;subst ee)
     (have ee:v2=(.func (.func 150) #[] #[]:Value):=(hd 2 (by simp)).1;subst ee)
     (have ee:v3=(.pointer (some ⟨zb,0,none⟩):Value):=(hd 3 (by simp)).1;subst ee)
     (have ee:v4=(.int .i64 x.1:Value):=(hd 4 (by simp)).1;subst ee)
     (have ee:v5=(.bool true:Value):=(hd 5 (by simp)).1;subst ee)
     (have ee:v6=(.bool true:Value):=(hd 6 (by simp)).1;subst ee)
     (have ee:v7=(.func (.func 150) #[] #[]:Value):=(hd 7 (by simp)).1;subst ee)
     (have ee:v8=(.pointer (some ⟨zb,1,none⟩):Value):=(hd 8 (by simp)).1;subst ee)
     (have ee:v9=(.int .i64 x.2:Value):=(hd 9 (by simp)).1;subst ee)
     (have ee:v10=(.bool q:Value):=(hd 10 (by simp)).1;subst ee)
     (have ee:v11=(.bool q:Value):=(hd 11 (by simp)).1;subst ee)
     (have ee:v12=(undef:Value):=(hd 12 (by simp)).1;subst ee)
     (have ee:v13=(undef:Value):=(hd 13 (by simp)).1;subst ee)
     have hE:=(hd 12 (by simp)).2 rfl;clear hd
     (try go_simp)
     have hAx:Arr wx (w.heap.size+2) f:=hg.2.1 HA.out;have hBx:Below w.heap.size w wx:=HB.out.trans (Turn.below (B:=w.heap.size) hg.1 (by show _<=wr.heap.size;omega) fun q hq e=>by rcases e with e|e <;> omega);have HBX:=Hd hBx;obtain⟨⟨y0,y1⟩,_,_⟩:=hE;obtain⟨t0,t1,t2,t3,t4,t5,t6,t7,t8,t9,t10,t11,t12⟩:=hAx.cells;clear hAx hBx HA HZ HX HU hg;go_wp2;refine only_done ?_;go_wp2;exact bodyPost_ret (v:=.tuple #[.agg #[.int .i64 x.1,.int .i64 x.2],vD f,.bool q]) (by simp[results,Tryz.results106,go_sem, *]) rfl (HPOST.out _ _ ⟨x,f,by rw[HOK.out,HBB.out];rfl,fun _=>⟨HXE.out.symm,HD.out⟩,HBX.out⟩)
   ·obtain⟨i,rfl⟩:∃i,j=i+1:=⟨j-1,by omega⟩
    have hsp:=split_in (upN (R-(i+1)) y) (upN_sm (by omega) HSM.out _);have hup:upN (R-i) y=upE (upN (R-(i+1)) y):=by rw[show R-i=(R-(i+1))+1 by omega,upN_up]
    have HD:=Hd (digit_in (digE (upN (R-(i+1)) y)) (digE_lt _));have HWD:=Hd (fun k=>wayD_step (R:=R) (z:=y) (i:=i) (k:=k) (by omega));rw[<- hup]at hsp;simp only[vE]at hsp HD;have HSP:=Hd hsp;clear hsp hup;generalize upN (R-(i+1)) y=x at *;obtain⟨x',hx'⟩:∃x',upN (R-i) y=x':=⟨_,rfl⟩;rw[hx']at HSP;have HXE:=Hd hx';clear hx';generalize leftE (digE x)=l at *;generalize digE x=d at *;obtain⟨⟨⟨z0,z1⟩,z2,z3⟩,hA,hU,hB⟩:=HI.out;have Z:=Hd HI.out.1;have A:=Hd hA;have U:=Hd hU;have B:=Hd hB;have q0:decide (0<(i:Int)+1)=true:=decide_eq_true (by omega);clear hA hU hB HI
    go_wp2_with fail
    refine(HSP.out _).mono ?_;rintro e w3 ⟨rfl,hb3⟩;have hz3:=hb3.size;have k1:=World.size_alloc w3 (.cells #[.int .i64 x'.1,.int .i64 x'.2] 37);have k2:=World.size_alloc (w3.alloc (.cells #[.int .i64 x'.1,.int .i64 x'.2] 37)) (.cells #[.int .i64 l.1,.int .i64 l.2] 37);have hal:Below w3.heap.size w3 ((w3.alloc (.cells #[.int .i64 x'.1,.int .i64 x'.2] 37)).alloc (.cells #[.int .i64 l.1,.int .i64 l.2] 37)):=(br.alloc lr _).alloc (by omega) _;have hal2:Below wr.heap.size wr ((w3.alloc (.cells #[.int .i64 x'.1,.int .i64 x'.2] 37)).alloc (.cells #[.int .i64 l.1,.int .i64 l.2] 37)):=hb3.trans (hal.mono hz3);have Z2:=Hd (Z.out.later (by omega) hal2);have A2:=Hd (A.out.later hal2);have U2:=Hd (U.out.later (by omega) hal2);have B2:=Hd (B.out.trans (hal2.mono (by omega)));have X2:Hid (Two ((w3.alloc (.cells #[.int .i64 x'.1,.int .i64 x'.2] 37)).alloc (.cells #[.int .i64 l.1,.int .i64 l.2] 37)) w3.heap.size (.int .i64 x'.1) (.int .i64 x'.2)):=(Two.of_row (t:=37) (f:=_) (heap_new _ _ _ rfl)).alloc (by omega) _;have L2:Hid (Two ((w3.alloc (.cells #[.int .i64 x'.1,.int .i64 x'.2] 37)).alloc (.cells #[.int .i64 l.1,.int .i64 l.2] 37)) (w3.heap.size+1) (.int .i64 l.1) (.int .i64 l.2)):=Two.of_row (t:=37) (f:=_) (heap_new _ _ _ (by omega));clear hb3 hal hal2 z0 z1 z2 z3 Z A U B
    go_upto_region 8 with(fail)
    generalize(w3.alloc (.cells #[.int .i64 x'.1,.int .i64 x'.2] 37)).alloc (.cells #[.int .i64 l.1,.int .i64 l.2] 37)=w4 at *;have HG:Hid (∀ wx,Ga (w.heap.size+2) (wayD R y (i+1)) (wayD R y i) w4.drew wx->(∃ v,wx.cell? ⟨w.heap.size+1+1,i+1,none⟩=some v)/\wx.frozen? ⟨w.heap.size+1+1,i+1,none⟩=false/\Ga (w.heap.size+2) (wayD R y (i+1)) (wayD R y i) wx (wx.setCell ⟨w.heap.size+1+1,i+1,none⟩ (.int .i64 d))/\Arr (wx.setCell ⟨w.heap.size+1+1,i+1,none⟩ (.int .i64 d)) (w.heap.size+2) (wayD R y i)):=fun wx hx=>by
     have hi13:i+1<13:=by omega
     have hp:Arr wx (w.heap.size+2) (wayD R y (i+1))∨Arr wx (w.heap.size+2) (wayD R y i):=hx.2.1 A2.out;have hput:Arr (wx.setCell ⟨w.heap.size+1+1,i+1,none⟩ (.int .i64 d)) (w.heap.size+2) (wayD R y i)/\Turn (fun q=>q=w.heap.size+2) wx (wx.setCell ⟨w.heap.size+1+1,i+1,none⟩ (.int .i64 d)):=by
      rcases hp with h|h
      ·exact⟨(h.put hi13 (d:Int)).1.congr fun k _=>HWD.out k,(h.put hi13 (d:Int)).2⟩
      ·refine⟨(h.put hi13 (d:Int)).1.congr fun k _=>?_,(h.put hi13 (d:Int)).2⟩
       rw[<- HWD.out k];by_cases e:k=i+1
       ·rw[if_pos e,if_pos e]
       ·rw[if_neg e,if_neg e]
     refine⟨?_,?_,⟨hput.2,fun _=>.inr hput.1,fun _=>hput.1⟩,hput.1⟩
     ·rcases hp with h|h
      ·exact⟨_,(h.cell hi13).1⟩
      ·exact⟨_,(h.cell hi13).1⟩
     ·rcases hp with h|h
      ·exact(h.cell hi13).2
      ·exact(h.cell hi13).2
    have HX:Hid (∀ wx,Turn (fun q=>q=w.heap.size+2) w4 wx->Two wx w3.heap.size (.int .i64 x'.1) (.int .i64 x'.2)/\Two wx (w3.heap.size+1) (.int .i64 l.1) (.int .i64 l.2)):=fun wx hx=>⟨X2.out.turn hx (by omega) (by omega),L2.out.turn hx (by omega) (by omega)⟩
    have hi12:(i:Int)+1<13:=by omega
    clear X2 L2;refine wp_region_end 6 (Ga (w.heap.size+2) (wayD R y (i+1)) (wayD R y i)) (fun qi_ qv_ qw_=>qv_=([.int .i64 ((i:Int)+1),.agg #[.int .i64 l.1,.int .i64 l.2],.int .i64 (d:Int),.agg #[.int .i64 x'.1,.int .i64 x'.2],.pointer (some ⟨w.heap.size+1+1,i+1,none⟩),undef]:List Value).getD qi_ undef/\(qi_=5->(fun q=>Arr q (w.heap.size+2) (wayD R y i)) qw_)) (by kernel_rfl) (by kernel_rfl) (by kernel_rfl) (fun _=>Ga.refl _ _ _ _) (fun _ _ _ h1 h2=>h1.trans h2) (fun _ _ _ _ _ h2 h=>⟨h.1,fun e=>h2.2.2 (h.2 e)⟩) ?_;simp only[List.take_succ_cons,List.take_zero,List.drop_succ_cons,List.drop_zero];refine inv_cons (fun wx hg hd=>?_) (fun v0=>?_)
    ·clear hd
     go_wp2
     first|exact⟨_,rfl,Ga.refl _ _ _ _,rfl⟩|exact⟨_,rfl,Ga.refl _ _ _ _,rfl,fun h=>absurd h (by simp)⟩
    (try simp only[pq])
    refine inv_cons (fun wx hg hd=>?_) (fun v1=>?_)
    ·clear hd
     obtain⟨_,t1,t2⟩:=HX.out _ hg.1;go_wp2
     first|exact⟨_,rfl,Ga.refl _ _ _ _,rfl⟩|exact⟨_,rfl,Ga.refl _ _ _ _,rfl,fun h=>absurd h (by simp)⟩
    (try simp only[pq])
    refine inv_cons (fun wx hg hd=>?_) (fun v2=>?_)
    ·(try(have ee:v1=(.agg #[.int .i64 l.1,.int .i64 l.2]:Value):=(hd 1 (by simp) (by decide)).1;subst ee))
     clear hd
     go_wp2_with fail
     refine(HD.out _).mono ?_;rintro e w' ⟨rfl,hb⟩;go_wp2
     first|exact⟨_,rfl,Ga.of_below hb,rfl⟩|exact⟨_,rfl,Ga.of_below hb,rfl,fun h=>absurd h (by simp)⟩
    (try simp only[pq])
    refine inv_cons (fun wx hg hd=>?_) (fun v3=>?_)
    ·clear hd
     obtain⟨⟨t1,t2⟩,_⟩:=HX.out _ hg.1;go_wp2
     first|exact⟨_,rfl,Ga.refl _ _ _ _,rfl⟩|exact⟨_,rfl,Ga.refl _ _ _ _,rfl,fun h=>absurd h (by simp)⟩
    (try simp only[pq])
    refine inv_cons (fun wx hg hd=>?_) (fun v4=>?_)
    ·(try(have ee:v0=(.int .i64 ((i:Int)+1):Value):=(hd 0 (by simp) (by decide)).1;subst ee))
     clear hd;go_wp2
     first|exact⟨_,rfl,Ga.refl _ _ _ _,rfl⟩|exact⟨_,rfl,Ga.refl _ _ _ _,rfl,fun h=>absurd h (by simp)⟩
    (try simp only[pq])
    refine inv_cons (fun wx hg hd=>?_) (fun v5=>?_)
    ·(try(have ee:v2=(.int .i64 (d:Int):Value):=(hd 2 (by simp) (by decide)).1;subst ee))
     (try(have ee:v4=(.pointer (some ⟨w.heap.size+1+1,i+1,none⟩):Value):=(hd 4 (by simp) (by decide)).1;subst ee))
     clear hd;obtain⟨⟨v,t1⟩,t2,t3,t4⟩:=HG.out _ hg;go_wp2;exact⟨_,rfl,t3,rfl,t4⟩
    (try simp only[pq])
    refine inv_done (fun wx hg hd=>?_)
    (have ee:v0=(.int .i64 ((i:Int)+1):Value):=(hd 0 (by simp)).1;subst ee)
    (have ee:v1=(.agg #[.int .i64 l.1,.int .i64 l.2]:Value):=(hd 1 (by simp)).1;subst ee)
    (have ee:v2=(.int .i64 (d:Int):Value):=(hd 2 (by simp)).1;subst ee)
    (have ee:v3=(.agg #[.int .i64 x'.1,.int .i64 x'.2]:Value):=(hd 3 (by simp)).1;subst ee)
    (have ee:v4=(.pointer (some ⟨w.heap.size+1+1,i+1,none⟩):Value):=(hd 4 (by simp)).1;subst ee)
    (have ee:v5=(undef:Value):=(hd 5 (by simp)).1;subst ee)
    have hE:=(hd 5 (by simp)).2 rfl;clear hd
    (try go_simp)
    have hgt:Turn (fun q=>q=w.heap.size+2) w4 wx:=hg.1;have hsx:=hgt.2.2.2.1;have Z3:=Hd (Z2.out.turn hgt (by omega) (by omega));have U3:=Hd (U2.out.turn hgt (by omega) (by omega));have B3:Hid (Below w.heap.size w wx):=B2.out.trans (hgt.below (by omega) fun q hq e=>by omega);have P:=Hd (Z3.out.put (.int .i64 x'.1) (.int .i64 x'.2));have hs4:=P.out.2.2.2.2.1;have HN:Hid (Two2 ((wx.setCell ⟨zb,0,none⟩ (.int .i64 x'.1)).setCell ⟨zb,1,none⟩ (.int .i64 x'.2)) zb (.int .i64 x'.1) (.int .i64 x'.2)/\Arr ((wx.setCell ⟨zb,0,none⟩ (.int .i64 x'.1)).setCell ⟨zb,1,none⟩ (.int .i64 x'.2)) (w.heap.size+2) (wayD R y i)/\Two2 ((wx.setCell ⟨zb,0,none⟩ (.int .i64 x'.1)).setCell ⟨zb,1,none⟩ (.int .i64 x'.2)) (w.heap.size+1) (.int .i64 0) (.int .i64 0)/\Below w.heap.size w ((wx.setCell ⟨zb,0,none⟩ (.int .i64 x'.1)).setCell ⟨zb,1,none⟩ (.int .i64 x'.2))):=
     ⟨P.out.1,Arr.turn hE P.out.2 (by omega),U3.out.turn P.out.2 (by omega) (by omega),B3.out.trans (P.out.2.below (by omega) fun q hq e=>by omega)⟩
    obtain⟨⟨z0,z1⟩,z2,z3⟩:=Z3.out;have HSZ:Hid (w2.heap.size<=((wx.setCell ⟨zb,0,none⟩ (.int .i64 x'.1)).setCell ⟨zb,1,none⟩ (.int .i64 x'.2)).heap.size):=by show _<=_;omega
    clear hgt hg hE HX HG Z2 A2 U2 B2 Z3 U3 B3 P;go_wp2;refine only_done ?_;go_wp2
    go_roundw
    case rel=>exact⟨i,by omega,by go_num,by rw[HXE.out];exact HN.out,HSZ.out⟩
    case measure=>simp[intOf]
theorem way_any(r:Int)(z:E2)(w:World):Calls Tryz.prog 106 #[vC r z] w (Way w r z):=by
 by_cases hs:shapeB r z=true
 ·exact way_yes r z hs w
 ·exact way_no r z hs w
theorem ok_any(r:Int)(z:E2)(w:World):Calls Tryz.prog 165 #[vC r z] w fun e w'=>e=.returned (.bool (okB r z))/\Below w.heap.size w w':=by
 have HW:=Hd (way_any r z);unfold Way at HW;generalize okB r z=o at *;simp only[vC]at*
 go_enter Tryz.func165,Tryz.ntmps165
 go_wp2_with fail
 refine(HW.out _).mono ?_;rintro e w1 ⟨b,f,rfl,-,hb⟩;have HB:Hid (Below w.heap.size w w1):=(br.alloc lr _).trans (hb.mono (by simp));have hz:=HB.out.size;clear hb HW;go_wp2;go_ret;exact⟨rfl,(HB.out.alloc hz _).alloc (by simp;omega) _⟩
end
end Go.Proofs.YtpkoapmpknbgoaaGreat
