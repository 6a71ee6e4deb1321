/- Joined: HpPq, HpDq, HpFq, SlDq, SlEq, SlFq, SlGq, SlIq, PcBq, PdGq, PcCq, PlAq, PlBq, PdHq, PdFq, PkAq, PkBq, NwCq, PlCq, PlDq, PlEq, BdP, BdB, FtC, RpO, BdC, NcBq, NwAq: contracts and plain laws, each with its own heading below. -/
import Derived.Test.YtpkoapmpknbgoaaGreatPackBM
import Derived.Maps.AppendAt
import Derived.Laws.OwnMore
import Derived.Lib.AppendZeros
import Derived.Test.YtpkoapmpknbgoaaGreatPackBC
import Derived.Test.YtpkoapmpknbgoaaGreatPackBL
import Derived.OwnWalk
import Derived.Test.YtpkoapmpknbgoaaGreatPackBF
import Derived.Test.YtpkoapmpknbgoaaGreatPackBJ
import Derived.Test.YtpkoapmpknbgoaaGreatPackBK
import Derived.Test.YtpkoapmpknbgoaaGreatPackBI
import Derived.Deep.Slices
import Derived.OpenShut
import Derived.SizedLaws
set_option maxRecDepth 100000
set_option maxHeartbeats 16000000
namespace Go.Proofs.YtpkoapmpknbgoaaGreat
section
theorem less_iff{a b:Int}:lessW a b=true↔b<a:=by unfold lessW;simp
theorem less_not{a b:Int}:lessW a b=false↔a<=b:=by unfold lessW;simp
theorem less_asymm{a b:Int}(h:lessW a b=true):lessW b a=false:=by rw[less_iff]at h;rw[less_not];omega
theorem less_trans{a b c:Int}(h:lessW a b=true)(h2:lessW b c=true):lessW a c=true:=by rw[less_iff]at *;omega
theorem less_ntrans{a b c:Int}(h:lessW a b=false)(h2:lessW b c=false):lessW a c=false:=by rw[less_not]at *;omega
theorem less_irrefl(a:Int):lessW a a=false:=by rw[less_not];omega
def par(j:Nat):Nat:=(j-1)/2
def Heap(n:Nat)(L:List Int):Prop:=∀j,0<j->j<n->lessW (gw L j) (gw L (par j))=false
theorem heap_min{n:Nat}{L:List Int}(h:Heap n L):∀j,j<n->lessW (gw L j) (gw L 0)=false:=by
 intro j
 induction j using Nat.strongRecOn with
 |_ j ih=>
  intro hj;by_cases e:j=0
  ·subst e;exact less_irrefl _
  ·have hp:par j<j:=by unfold par;omega
   exact less_ntrans (h j (by omega) hj) (ih (par j) hp (by omega))
def UpOk(n:Nat)(L:List Int)(k:Nat):Prop:=(∀ j,0<j->j<n->j≠k->lessW (gw L j) (gw L (par j))=false)/\∀j,0<j->j<n->par j=k->0<k->lessW (gw L j) (gw L (par k))=false
theorem up_heap{n:Nat}:∀(k:Nat) (L:List Int),k<n->n<=L.length->UpOk n L k->Heap n (upF L k):=by
 intro k
 induction k using Nat.strongRecOn with
 |_ k ih=>
  intro L hk hn h;by_cases e:k=0
  ·subst e
   rw[upF_zero];exact fun j h1 h2=>h.1 j h1 h2 (by omega)
  ·cases hl:lessW (gw L k) (gw L (par k))with
   |false=>
    rw[upF_stop rfl hl];intro j h1 h2;by_cases e2:j=k
    ·subst e2;exact hl
    ·exact h.1 j h1 h2 e2
   |true=>
    obtain⟨i,hi⟩:∃i,par k=i:=⟨_,rfl⟩;rw[hi]at hl;have hik:i<k:=by unfold par at hi;omega
    rw[upF_step (by omega) hi hl];refine ih i hik _ (by omega) (by rw[swapL_length];exact hn) ⟨fun j h1 h2 h3=>?_,fun j h1 h2 h3 h4=>?_⟩
    ·rw[gw_swap (by omega) (by omega),gw_swap (by omega) (by omega)]
     by_cases e1:j=k
     ·subst e1
      rw[if_pos rfl,hi,if_neg (by omega),if_pos rfl];exact less_asymm hl
     ·rw[if_neg e1,if_neg h3]
      by_cases e2:par j=k
      ·rw[if_pos e2]
       have:=h.2 j h1 h2 e2 (by omega)
       rwa[hi]at this
      ·rw[if_neg e2]
       by_cases e3:par j=i
       ·rw[if_pos e3]
        have hj:=h.1 j h1 h2 e1;rw[e3]at hj;cases hc:lessW (gw L j) (gw L k)with
        |false=>rfl
        |true=>rw[less_trans hc hl]at hj;cases hj
       ·rw[if_neg e3]
        exact h.1 j h1 h2 e1
    ·have hq:par i<i:=by unfold par;omega
     rw[gw_swap (by omega) (by omega),gw_swap (by omega) (by omega),if_neg (show ¬par i=k by omega),if_neg (show ¬par i=i by omega)];have hii:=h.1 i h4 (by omega) (by omega);by_cases e1:j=k
     ·rw[if_pos e1];exact hii
     ·have hji:¬j=i:=by unfold par at h3;omega
      rw[if_neg e1,if_neg hji];have hj:=h.1 j h1 h2 e1;rw[h3]at hj;exact less_ntrans hj hii
def Off(n:Nat)(L:List Int)(i:Nat):Prop:=(∀ j,0<j->j<n->j≠i->par j≠i->lessW (gw L j) (gw L (par j))=false)/\∀j,0<j->j<n->par j=i->0<i->lessW (gw L j) (gw L (par i))=false
theorem child_par{L:List Int}{i n:Nat}:par (childF L i n)=i:=by unfold childF par;split <;> omega
theorem child_pos{L:List Int}{i n:Nat}:0<childF L i n:=by have:=childF_gt L i n;omega
theorem child_least{L:List Int}{i n j:Nat}(h0:0<j)(hj:j<n)(hp:par j=i)(hne:j≠childF L i n):lessW (gw L j) (gw L (childF L i n))=false:=by
 have hjj:j=2*i+1∨j=2*i+2:=by unfold par at hp;omega
 unfold childF at hne ⊢
 split
 ·rename_i h
  rw[if_pos h]at hne;have:j=2*i+1:=by omega
  subst this;exact less_asymm h.2
 ·rename_i h
  rw[if_neg h]at hne;have:j=2*i+2:=by omega
  subst this;cases hc:lessW (gw L (2*i+2)) (gw L (2*i+1))with
  |false=>rfl
  |true=>exact absurd ⟨hj,hc⟩ h
theorem off_step{n:Nat}{L:List Int}{i c:Nat}(hn:n<=L.length)(h:Off n L i)(hlt:2*i+1<n)(hc:childF L i n=c)(hl:lessW (gw L c) (gw L i)=true):
  (∀ j,0<j->j<n->par j≠c->lessW (gw (swapL L i c) j) (gw (swapL L i c) (par j))=false)/\∀j,0<j->j<n->par j=c->0<c->lessW (gw (swapL L i c) j) (gw (swapL L i c) (par c))=false:=by
 have hcp:par c=i:=by rw[<- hc];exact child_par
 have hcn:c<n:=by rw[<- hc];exact childF_lt hlt
 have hic:i<c:=by rw[<- hc];exact childF_gt L i n
 refine⟨fun j h1 h2 h3=>?_,fun j h1 h2 h3 _=>?_⟩
 ·rw[gw_swap (by omega) (by omega),gw_swap (by omega) (by omega),if_neg h3]
  by_cases e1:j=c
  ·subst e1
   rw[if_pos rfl,if_pos hcp];exact less_asymm hl
  ·rw[if_neg e1]
   by_cases e2:j=i
   ·subst e2
    have hpj:¬par j=j:=by unfold par;omega
    rw[if_pos rfl,if_neg hpj];exact h.2 c (by omega) hcn hcp h1
   ·rw[if_neg e2]
    by_cases e3:par j=i
    ·rw[if_pos e3, <-hc]
     exact child_least h1 h2 e3 (by rw[hc];exact e1)
    ·rw[if_neg e3]
     exact h.1 j h1 h2 e2 e3
 ·have hji:¬j=i:=by unfold par at h3;omega
  have hjc:¬j=c:=by unfold par at h3;omega
  rw[gw_swap (by omega) (by omega),gw_swap (by omega) (by omega),hcp,if_neg hjc,if_neg hji,if_neg (show ¬i=c by omega),if_pos rfl];have:=h.1 j h1 h2 hji (by rw[h3];omega)
  rwa[h3]at this
theorem down_heap{n:Nat}:∀(m i:Nat) (L:List Int),n-i<=m->n<=L.length->(∀ j,0<j->j<n->par j≠i->lessW (gw L j) (gw L (par j))=false)->(∀ j,0<j->j<n->par j=i->0<i->lessW (gw L j) (gw L (par i))=false)->Heap n (downF L i n).1:=by
 intro m
 induction m with
 |zero=>
  intro i L hm hn h1 h2;rw[downF_end (by omega)];exact fun j h3 h4=>h1 j h3 h4 (by unfold par;omega)
 |succ m ih=>
  intro i L hm hn h1 h2;by_cases he:n<=2*i+1
  ·rw[downF_end he]
   exact fun j h3 h4=>h1 j h3 h4 (by unfold par;omega)
  ·obtain⟨c,hc⟩:∃c,childF L i n=c:=⟨_,rfl⟩
   have hic:i<c:=by rw[<- hc];exact childF_gt L i n
   cases hl:lessW (gw L c) (gw L i)with
   |false=>
    rw[downF_stop hc hl];intro j h3 h4;by_cases e:par j=i
    ·rw[e]
     by_cases e2:j=c
     ·rw[e2];exact hl
     ·have:=child_least (L:=L) h3 h4 e (by rw[hc];exact e2)
      rw[hc]at this;exact less_ntrans this hl
    ·exact h1 j h3 h4 e
   |true=>
    rw[downF_step he hc hl];have hs:=off_step hn ⟨fun j h3 h4 _ h5=>h1 j h3 h4 h5,h2⟩ (by omega) hc hl;exact ih c _ (by omega) (by rw[swapL_length];exact hn) hs.1 hs.2
theorem set_perm{L:List Int}{i k:Nat}(hi:i<L.length)(hk:k<L.length):(swapL L i k).Perm L:=by
 refine List.perm_iff_count.2 fun a=>?_
 have e1:gw L i=L[i]:=by unfold gw;rw[List.getD_eq_getElem?_getD,List.getElem?_eq_getElem hi,Option.getD_some]
 have e2:gw L k=L[k]:=by unfold gw;rw[List.getD_eq_getElem?_getD,List.getElem?_eq_getElem hk,Option.getD_some]
 unfold swapL;rw[List.count_set (by simpa using hk),List.count_set hi,e1,e2];have p1:(if L[i]==a then 1 else 0)<=L.count a:=by
  split
  ·rename_i h
   have h:=eq_of_beq h;rw[<- h];exact List.count_pos_iff.2 (List.getElem_mem hi)
  ·omega
 rw[List.getElem_set];by_cases e:i=k
 ·subst e
  rw[if_pos rfl];omega
 ·rw[if_neg e]
  by_cases h1:(L[i]==a)=true <;> by_cases h2:(L[k]==a)=true <;> simp only[h1,h2,if_true,if_false,Bool.false_eq_true]at p1 ⊢ <;> omega
theorem up_perm:∀(k:Nat) (L:List Int),k<L.length->(upF L k).Perm L:=by
 intro k
 induction k using Nat.strongRecOn with
 |_ k ih=>
  intro L hk;by_cases e:k=0
  ·subst e;rw[upF_zero]
  ·cases hl:lessW (gw L k) (gw L ((k-1)/2))with
   |false=>rw[upF_stop rfl hl]
   |true=>
    rw[upF_step (by omega) rfl hl];exact(ih _ (by omega) _ (by rw[swapL_length];omega)).trans (set_perm (by omega) hk)
theorem down_perm{n:Nat}:∀(m i:Nat) (L:List Int),n-i<=m->n<=L.length->(downF L i n).1.Perm L/\∀j,n<=j->gw (downF L i n).1 j=gw L j:=by
 intro m
 induction m with
 |zero=>intro i L hm hn;rw[downF_end (by omega)];exact⟨List.Perm.refl _,fun _ _=>rfl⟩
 |succ m ih=>
  intro i L hm hn;by_cases he:n<=2*i+1
  ·rw[downF_end he];exact⟨List.Perm.refl _,fun _ _=>rfl⟩
  ·have hic:=childF_gt L i n
   have hcn:=childF_lt (L:=L) (i:=i) (n:=n) (by omega);cases hl:lessW (gw L (childF L i n)) (gw L i)with
   |false=>rw[downF_stop rfl hl];exact⟨List.Perm.refl _,fun _ _=>rfl⟩
   |true=>
    rw[downF_step he rfl hl];obtain⟨h1,h2⟩:=ih (childF L i n) (swapL L i (childF L i n)) (by omega) (by rw[swapL_length];exact hn);refine⟨h1.trans (set_perm (by omega) (by omega)),fun j hj=>?_⟩;rw[h2 j hj,gw_swap (by omega) (by omega),if_neg (by omega),if_neg (by omega)]
end
section
open Go.RowKit Go.Lib
def HeapAt(w:World)(r:Nat)(vo:Option Addr)(c:Nat)(L:List Int):Prop:=RowAt w r vo c L/\Heap L.length L
theorem gw_append{L:List Int}{x:Int}{j:Nat}(h:j<L.length):gw (L++[x]) j=gw L j:=by
 unfold gw;rw[List.getD_eq_getElem?_getD,List.getElem?_append_left h,List.getD_eq_getElem?_getD]
theorem foot_trans{w:World}{r:Nat}{vo vo':Option Addr}(h:Grows w r vo vo'):∀k,k<w.heap.size->Foot r vo' k->Foot r vo k:=fun k hk hf=>by
 rcases hf with h1|⟨o,s,h1⟩
 ·exact .inl h1
 ·exact h k o s h1 hk
def Pushed(w:World)(r:Nat)(vo:Option Addr)(L:List Int)(x:Int)(e:Ending)(w':World):Prop:=
 e=.returned (.tuple #[])/\∃vo' c' L',HeapAt w' r vo' c' L'/\L'.Perm (x::L)/\Grows w r vo vo'/\Turn (Foot r vo) w w'
theorem hpush_any{w:World}{r c:Nat}{vo:Option Addr}{L:List Int}(h:HeapAt w r vo c L)(x:Int)(hx:0<=x/\x<18446744073709551616)(hlen:L.length<1000000):
  Calls Tryz.prog 86 #[ifc r,.iface 35 (.int .u64 x)] w (Pushed w r vo L x):=by
 have HP:=Hd (rpush_any h.1 x hx hlen);have HH:=Hd h.2;clear h hx;obtain⟨n,hn⟩:∃n,L.length=n:=⟨_,rfl⟩;have HN:=Hd hn;rw[hn]at hlen;clear hn;unfold ifc
 go_enter Tryz.func86,Tryz.ntmps86
 go_wp2_with fail
 refine HP.out.mono ?_;rintro e w1 ⟨rfl,⟨vo',c',hr1,hg1⟩,ht1⟩;have HR1:=Hd hr1;have HG1:=Hd hg1;have HT1:=Hd ht1;have HLL:Hid ((L++[x]).length=n+1):=by show _=_;rw[List.length_append,HN.out];rfl
 have mth:=meth_len (hr1.head HLL.out);have HLN:=Hd (plen_any vo' (n+1) c' w1);have q1:IntKind.i64.wrap (((n+1:Nat):Int)-1)=n:=by rw[show ((n+1:Nat):Int)-1=n by omega];exact wrap_in (by omega) (by omega)
 clear hr1 hg1 ht1
 go_wp2_with fail
 refine HLN.out.mono ?_;rintro e w2 ⟨rfl,rfl⟩;have HU:=Hd (up_any HR1.out (j0:=n) (by rw[HLL.out];omega));unfold ifc at HU;have HF:Hid (∀ w3,RowAt w3 r vo' c' (upF (L++[x]) n)->Turn (Foot r vo') w1 w3->Pushed w r vo L x (.returned (.tuple #[])) w3):=fun w3 hr3 ht3=>by
  have hN:=HN.out;subst hN;refine⟨rfl,vo',c',_,⟨hr3,?_⟩,?_,HG1.out,HT1.out.trans ht3 fun k hk hf=>foot_trans HG1.out k hk hf⟩
  ·have hl:(L++[x]).length=L.length+1:=by simp
   have hll:(upF (L++[x]) L.length).length=L.length+1:=((up_perm L.length (L++[x]) (by omega)).length_eq).trans hl;rw[hll];refine up_heap L.length (L++[x]) (by omega) (by omega) ⟨fun j h1 h2 h3=>?_,fun j h1 h2 h3 h4=>?_⟩
   ·have hp:par j<j:=by unfold par;omega
    rw[gw_append (by omega),gw_append (by omega)];exact HH.out j h1 (by omega)
   ·unfold par at h3;omega
  ·exact(up_perm L.length (L++[x]) (by simp)).trans List.perm_append_comm
 go_wp2_with fail
 refine HU.out.mono ?_;rintro e w3 ⟨rfl,hr3,ht3⟩;have HFF:=Hd (HF.out w3 hr3 ht3);clear hr3 ht3 HF;go_wp2
 go_end0
 exact HFF.out
theorem split_last{L:List Int}{m:Nat}(h:L.length=m+1):L=L.take m++[gw L m]:=by
 have e:gw L m=L[m]'(by omega):=by unfold gw;rw[List.getD_eq_getElem?_getD,List.getElem?_eq_getElem (by omega),Option.getD_some]
 rw[e, <-List.take_succ_eq_append_getElem (by omega), <-h,List.take_length]
theorem gw_take{L:List Int}{m j:Nat}(hj:j<m):gw (L.take m) j=gw L j:=by
 unfold gw;rw[List.getD_eq_getElem?_getD,List.getElem?_take_of_lt hj,List.getD_eq_getElem?_getD]
theorem heap_take{L:List Int}{m:Nat}(h:Heap m L):Heap m (L.take m):=fun j h1 h2=>by
 have hp:par j<j:=by unfold par;omega
 rw[gw_take h2,gw_take (by omega)];exact h j h1 h2
def Popped(w:World)(r:Nat)(vo:Option Addr)(c:Nat)(L:List Int)(x:Int)(e:Ending)(w':World):Prop:=
 e=.returned (.iface 35 (.int .u64 x))/\∃L',HeapAt w' r vo c L'/\(x::L').Perm L/\Turn (Foot r vo) w w'
theorem popped{w w1 w2:World}{r c m:Nat}{vo:Option Addr}{L M:List Int}{x:Int}(hM:M.length=m+1)(hp:M.Perm L)(hh:Heap m M)(hx:gw M m=x)(ht1:Turn (Foot r vo) w w1)
  (hr2:RowAt w2 r vo c (M.take m)) (ht2:Turn (Foot r vo) w1 w2):Popped w r vo c L x (.returned (.iface 35 (.int .u64 x))) w2:=by
 refine⟨rfl,M.take m,⟨hr2,?_⟩,?_,ht1.trans ht2 fun _ _ h=>h⟩
 ·rw[List.length_take,hM,Nat.min_eq_left (by omega)]
  exact heap_take hh
 ·have e:=split_last hM
  rw[hx]at e;have h2:(x::M.take m).Perm (M.take m++[x]):=List.perm_append_comm (l₁:=[x]);rw[<- e]at h2;exact h2.trans hp
theorem hpop_any{w:World}{r c m:Nat}{vo:Option Addr}{L:List Int}(h:HeapAt w r vo c L)(hL:L.length=m+1):
  Calls Tryz.prog 65 #[ifc r] w (Popped w r vo c L (gw L 0)):=by
 have mth1:=meth_len (h.1.head hL);have mth2:=meth_swap (h.1.head hL);have HLN:=Hd (plen_any vo (m+1) c w);have HS:=Hd (rswap_any h.1 hL (i:=0) (k:=m) (by omega) (by omega));have HH:=Hd h;have hm:m<1000000:=by have:=h.1.2.2.2.2.2.2;omega
 have HL:=Hd hL;have q1:IntKind.i64.wrap (((m+1:Nat):Int)-1)=m:=by rw[show ((m+1:Nat):Int)-1=m by omega];exact wrap_in (by omega) (by omega)
 clear h hL;unfold ifc
 go_enter Tryz.func65,Tryz.ntmps65
 go_wp2_with fail
 refine HLN.out.mono ?_;rintro e w1 ⟨rfl,rfl⟩
 go_wp2_with fail
 refine HS.out.mono ?_;rintro e w2 ⟨rfl,hr2,ht2⟩;have HT2:=Hd ht2;have HD:=Hd (down_any hr2 (i0:=0) (n:=m) (by rw[swapL_length,HL.out];omega) (by rw[swapL_length,HL.out];omega));unfold ifc at HD;clear hr2 ht2 mth1 mth2
 go_wp2_with fail
 refine HD.out.mono ?_;rintro e w3 ⟨rfl,hr3,ht3⟩;have hdp:=down_perm m 0 (swapL L 0 m) (by omega) (n:=m) (by rw[swapL_length,HL.out];omega);have hdl:(downF (swapL L 0 m) 0 m).1.length=m+1:=by rw[hdp.1.length_eq,swapL_length,HL.out]
 have hdh:Heap m (downF (swapL L 0 m) 0 m).1:=by
  refine down_heap m 0 _ (by omega) (by rw[swapL_length,HL.out];omega) (fun j h1 h2 h3=>?_) (fun _ _ _ _ h=>absurd h (Nat.lt_irrefl _));have hp:par j<j:=by unfold par;omega
  rw[gw_swap (by rw[HL.out];omega) (by rw[HL.out];omega),gw_swap (by rw[HL.out];omega) (by rw[HL.out];omega),if_neg (by omega),if_neg (by omega),if_neg (by omega),if_neg (by omega)];exact HH.out.2 j h1 (by rw[HL.out];omega)
 have hdx:gw (downF (swapL L 0 m) 0 m).1 m=gw L 0:=by
  rw[hdp.2 m lr,gw_swap (by rw[HL.out];omega) (by rw[HL.out];omega),if_pos rfl]
 have hpm:(downF (swapL L 0 m) 0 m).1.Perm L:=hdp.1.trans (set_perm (by rw[HL.out];omega) (by rw[HL.out];omega));have hr4:=hr3;rw[split_last hdl,hdx]at hr4;have HP:=Hd (rpop_any hr4);have HT3:=Hd (HT2.out.trans ht3 fun _ _ h=>h);have HF:=Hd (fun w4=>popped (w:=w) (w1:=w3) (w2:=w4) (c:=c) hdl hpm hdh hdx HT3.out);clear hr3 ht3 hdp hdl hdh hdx hpm hr4 HD HT2;generalize gw L 0=x at*
 go_wp2_with fail
 refine HP.out.mono ?_;rintro e w4 ⟨rfl,hr5,ht5⟩;have HFF:=Hd (HF.out w4 hr5 ht5);clear hr5 ht5 HF;go_wp2;go_ret;exact HFF.out
theorem down_still{n i:Nat}{L:List Int}(h:Heap n L):downF L i n=(L,i):=by
 by_cases he:n<=2*i+1
 ·exact downF_end he
 ·refine downF_stop rfl ?_
  have h1:=h (childF L i n) child_pos (childF_lt (by omega))
  rwa[child_par]at h1
theorem hinit_any{w:World}{r c:Nat}{vo:Option Addr}{L:List Int}(h:HeapAt w r vo c L):
  Calls Tryz.prog 82 #[ifc r] w fun e w'=>e=.returned (.tuple #[])/\HeapAt w' r vo c L/\Turn (Foot r vo) w w':=by
 obtain⟨n,hn⟩:∃n,L.length=n:=⟨_,rfl⟩;have mth1:=meth_len (h.1.head hn);have HLN:=Hd (plen_any vo n c w);have hlen:=h.1.2.2.2.2.2.2;rw[hn]at hlen;have HN:=Hd hn;have HH:=Hd h;clear h hn;unfold ifc
 go_enter Tryz.func82,Tryz.ntmps82
 go_wp2_with fail
 refine HLN.out.mono ?_;rintro e w1 ⟨rfl,rfl⟩;clear mth1;go_wp2
 go_loopw [3] (fun iv wr=>∃i:Int,-1<=i/\2*i+2<=n/\iv=.int .i64 i/\Hid (HeapAt wr r vo c L/\Turn (Foot r vo) w wr)) (fun iv _=>(intOf iv+1).toNat)
 case atStart=>exact⟨(n:Int)/2-1,by omega,by omega,by go_num,HH.out,Turn.refl _ _⟩
 case round=>
  obtain⟨i,hi1,hi2,rfl,HM⟩:=hrel;by_cases h0:0<=i
  ·obtain⟨k,rfl⟩:∃k:Nat,i=k:=⟨i.toNat,by omega⟩
   have HD:=Hd (down_any HM.out.1.1 (i0:=k) (n:=n) (by rw[HN.out];omega) (by rw[HN.out];omega));have hst:downF L k n=(L,k):=down_still (by have:=HM.out.1.2;rwa[HN.out]at this);rw[hst]at HD;unfold ifc at HD;clear hst
   go_wp2_with fail
   refine HD.out.mono ?_;rintro e w2 ⟨rfl,hr2,ht2⟩;have HM2:Hid (HeapAt w2 r vo c L/\Turn (Foot r vo) w w2):=⟨⟨hr2,HM.out.1.2⟩,HM.out.2.trans ht2 fun _ _ h=>h⟩;clear hr2 ht2 HM HD;go_wp2
   go_roundw
   case rel=>exact⟨(k:Int)-1,by omega,by omega,by go_num,HM2.out⟩
   case measure=>simp[intOf]
  ·go_wp2
   go_end0
   exact⟨rfl,HM.out⟩
end
section
open Go.RowKit Go.Lib Go.Sort
theorem rowU_swap{w:World}{g c i k:Nat}{L:List Int}(h:RowU w g c L)(hi:i<L.length)(hk:k<L.length):
  RowU ((w.setCell ⟨g,i,none⟩ (.int .u64 (gw L k))).setCell ⟨g,k,none⟩ (.int .u64 (gw L i))) g c (swapL L i k):=by
 have hT:Turn (fun x=>x=g) w ((w.setCell ⟨g,i,none⟩ (.int .u64 (gw L k))).setCell ⟨g,k,none⟩ (.int .u64 (gw L i))):=Turn.setCell (S:=fun x=>x=g) (a:=⟨g,k,none⟩) (Turn.setCell (S:=fun x=>x=g) (a:=⟨g,i,none⟩) (Turn.refl _ w) rfl _) rfl _;refine⟨Nat.lt_of_lt_of_le h.1 hT.2.2.2.1,fun j hj=>?_,fun j hj=>?_⟩
 ·rw[swapL_length]at hj
  rw[cell_put (cell_put (h.2.1 j hj)),gw_swap hi hk]
  split
  ·rfl
  ·split <;> rfl
 ·obtain⟨s1,s2⟩:=h.2.2 j hj
  obtain⟨x,hx⟩:=Option.isSome_iff_exists.1 s1;rw[cell_put (cell_put hx),World.frozen?_setCell,World.frozen?_setCell];exact⟨rfl,s2⟩
def RevTo(L M:List Int)(k:Nat):Prop:=M.length=L.length/\∀t,t<L.length->gw M t=if t<k∨L.length-k<=t then gw L (L.length-1-t)else gw L t
theorem revTo_zero(L:List Int):RevTo L L 0:=⟨rfl,fun t ht=>by rw[if_neg (by omega)]⟩
theorem revTo_succ{L M:List Int}{k:Nat}(h:RevTo L M k)(hk:2*k+1<L.length):RevTo L (swapL M k (L.length-1-k)) (k+1):=by
 refine⟨by rw[swapL_length];exact h.1,fun t ht=>?_⟩;have hl:=h.1;rw[gw_swap (by omega) (by omega)];by_cases e1:t=L.length-1-k
 ·rw[if_pos e1,if_pos (by omega),h.2 k (by omega),if_neg (by omega),e1];congr 1;omega
 ·rw[if_neg e1]
  by_cases e2:t=k
  ·rw[if_pos e2,if_pos (by omega),h.2 (L.length-1-k) (by omega),if_neg (by omega),e2]
  ·rw[if_neg e2,h.2 t ht]
   by_cases e3:t<k∨L.length-k<=t
   ·rw[if_pos e3,if_pos (by omega)]
   ·rw[if_neg e3,if_neg (by omega)]
theorem gw_rev(L:List Int)(t:Nat)(h:t<L.length):gw L.reverse t=gw L (L.length-1-t):=by
 unfold gw;rw[List.getD_eq_getElem?_getD,List.getElem?_reverse h,List.getD_eq_getElem?_getD]
theorem gw_ext{L M:List Int}(hl:L.length=M.length)(h:∀t,t<L.length->gw L t=gw M t):L=M:=by
 refine List.ext_getElem hl fun t h1 h2=>?_
 have:=h t h1;unfold gw at this
 rwa[List.getD_eq_getElem?_getD,List.getElem?_eq_getElem h1,List.getD_eq_getElem?_getD,List.getElem?_eq_getElem h2,Option.getD_some,Option.getD_some]at this
theorem revTo_end{L M:List Int}{k:Nat}(h:RevTo L M k)(hk:L.length<=2*k+1):M=L.reverse:=by
 refine gw_ext (by rw[h.1,List.length_reverse]) fun t ht=>?_
 rw[h.1]at ht;rw[h.2 t ht,gw_rev L t ht];by_cases e:t<k∨L.length-k<=t
 ·rw[if_pos e]
 ·rw[if_neg e];congr 1;omega
theorem rev_nil(vo:Option Addr)(c:Nat)(w:World):Calls Tryz.prog 81 #[.slice vo 0 c] w fun e w'=>e=.returned (.tuple #[])/\w=w':=by
 go_enter Tryz.func81,Tryz.ntmps81
 go_wp2
 go_loopg [2,3] 0 (fun q s2 s3 wr=>s2=.int .i64 0/\s3=.int .i64 (-1)/\Hid (w=wr/\True))
 case atStart=>exact⟨rfl,rfl,rfl,trivial⟩
 case round=>
  obtain⟨rfl,rfl,HW⟩:=hrel;go_wp2
  go_end0
  exact⟨rfl,HW.out.1⟩
theorem rev_any{w:World}{g c n:Nat}{L:List Int}(h:RowU w g c L)(hn:L.length=n)(hnc:n<=c)(hbig:n<=1000000):
  Calls Tryz.prog 81 #[.slice (some ⟨g,0,none⟩) n c] w fun e w'=>e=.returned (.tuple #[])/\RowU w' g c L.reverse/\Turn (fun k=>k=g) w w':=by
 have HU:=Hd h;have HN:=Hd hn;clear h hn
 go_enter Tryz.func81,Tryz.ntmps81
 go_wp2
 go_loopg [2,3] n (fun q s2 s3 wr=>∃(k:Nat) (jv:Int) (M:List Int),2*k<=n+1/\jv=(n:Int)-1-k/\n-k<=q/\s2=.int .i64 k/\s3=.int .i64 jv/\Hid (RevTo L M k/\RowU wr g c M/\Turn (fun k=>k=g) w wr))
 case atStart=>exact⟨0,_,L,by omega,rfl,by omega,by go_num,by go_num,revTo_zero L,HU.out,Turn.refl _ _⟩
 case round=>
  obtain⟨k,jv,M,hk,hjv,hg,rfl,rfl,HR⟩:=hrel;have HML:Hid (M.length=n):=by show _=_;rw[HR.out.1.1,HN.out]
  by_cases hlt:2*k+1<n
  ·obtain⟨m,rfl⟩:∃m:Nat,jv=m:=⟨jv.toNat,by omega⟩
   have hm:m=n-1-k:=by omega
   have HM:=Hd hm;have hmn:m<n:=by omega
   have hkm:k<m:=by omega
   have hgl:=HR.out.2.1.1;have c0:=HR.out.2.1.2.1 k (by rw[HML.out];omega);have d0:=HR.out.2.1.2.1 m (by rw[HML.out];omega);have f0:=(HR.out.2.1.2.2 k (by omega)).2;have f1:=(HR.out.2.1.2.2 m (by omega)).2;obtain⟨x,hx⟩:∃x,(wr.setCell ⟨g,k,none⟩ (.int .u64 (gw M m))).cell? ⟨g,m,none⟩=some x:=⟨_,cell_put d0⟩;have HF:Hid (RevTo L (swapL M k m) (k+1)/\RowU ((wr.setCell ⟨g,k,none⟩ (.int .u64 (gw M m))).setCell ⟨g,m,none⟩ (.int .u64 (gw M k))).drew g c (swapL M k m)/\Turn (fun k=>k=g) w ((wr.setCell ⟨g,k,none⟩ (.int .u64 (gw M m))).setCell ⟨g,m,none⟩ (.int .u64 (gw M k))).drew):=by
    have h1:=revTo_succ HR.out.1 (by rw[HN.out];omega);rw[HN.out, <-HM.out]at h1;exact⟨h1,rowU_swap HR.out.2.1 (by rw[HML.out];omega) (by rw[HML.out];omega),(Turn.setCell (S:=fun x=>x=g) (a:=⟨g,m,none⟩) (Turn.setCell (S:=fun x=>x=g) (a:=⟨g,k,none⟩) HR.out.2.2 rfl _) rfl _).drew⟩
   have qk:((k:Int)<(m:Int))=True:=eq_true (by omega);generalize gw M k=x0 at *;generalize gw M m=y0 at *;have HJ:=Hd hjv;clear hm hjv
   go_wp2_with fail
   go_region
   all_goals
    go_wp2
    go_roundg (n-(k+1))
    case measure=>omega
    case rel=>exact⟨k+1,(m:Int)-1,swapL M k m,by omega,by have:=HJ.out;omega,by omega,by go_num,by go_num,HF.out⟩
  ·have HF:Hid (RowU wr g c L.reverse/\Turn (fun k=>k=g) w wr):=by
    refine⟨?_,HR.out.2.2⟩;rw[<- revTo_end HR.out.1 (by rw[HN.out];omega)];exact HR.out.2.1
   clear HR;have qk:¬(k:Int)<jv:=by omega
   go_wp2
   go_end0
   exact⟨rfl,HF.out⟩
def SetRow(w:World)(L:List Int)(e:Ending)(w':World):Prop:=
 ∃ao,e=.returned (.slice ao L.length L.length)/\(∀ g o s,ao=some ⟨g,o,s⟩->w.heap.size<=g/\g<w'.heap.size)/\(0<L.length->∃g,ao=some ⟨g,0,none⟩/\RowU w' g L.length L)/\(ao=none->L.length=0)/\Below w.heap.size w w'
theorem uclone_none'(ao:Option Addr)(c:Nat)(w:World):
  Calls Tryz.prog 125 #[.slice ao 0 c] w fun e w'=>∃ao' c',e=.returned (.slice ao' 0 c')/\(∀ g o s,ao'=some ⟨g,o,s⟩->w.heap.size<=g/\g<w'.heap.size)/\Below w.heap.size w w':=by
 have q22:∀(w:World) (a:Option Addr) (n c n' c':Nat),(binOp .eql 22 (.slice a n c) (.slice none n' c')).run Tryz.prog w=.ok (.bool a.isNone) w:=fun w a n c n' c'=>Lib.run_eql_slice_nil w _ _ a n c n' c' Tryz.underlying22
 cases ao with
 |none=>
  go_enter Tryz.func125,Tryz.ntmps125
  go_wp2;go_ret;exact⟨none,_,rfl,fun g o s h=>(by cases h),br⟩
 |some a=>
  go_enter Tryz.func125,Tryz.ntmps125
  go_wp2;go_ret;exact⟨_,_,rfl,fun g o s h=>by cases h;exact⟨lr,by simp⟩,br.alloc lr _⟩
theorem uset_row(ao:Option Addr)(c:Nat)(l:List Int)(w:World)(B:Nat)(h:WordsAt w B ao l)(hn:l.length<=1000000000):
  Calls Tryz.prog 80 #[.slice ao l.length c] w (SetRow w (setF l)):=by
 by_cases h0:l.length=0
 ·obtain rfl:l=[]:=List.eq_nil_of_length_eq_zero h0
  rw[setF_nil];simp only[List.length_nil]
  go_enter Tryz.func80,Tryz.ntmps80
  go_wp2_with fail
  refine(uclone_none' ao c _).mono ?_;rintro e w1 ⟨a1,c1,rfl,hg,hb⟩;have HG:=Hd hg;clear hg
  go_wp2_with fail
  refine(u64_Sort_int_nil a1 c1 _).mono ?_;rintro e w2 ⟨rfl,hw⟩;rw[hw];clear hw
  go_wp2_with fail
  refine(ucompact_none a1 c1 _).mono ?_;rintro e w2 ⟨rfl,rfl⟩
  go_wp2_with fail
  refine(uclip_any a1 0 c1 _ (Nat.zero_le _)).mono ?_;rintro e w2 ⟨rfl,rfl⟩;go_wp2;go_ret;exact⟨a1,rfl,HG.out,fun h=>by simp at h,fun _=>rfl,hb⟩
 ·obtain⟨b,off,rfl,hlt,hc⟩:=h (by omega)
  have HC:=Hd hc;obtain⟨n,hnn⟩:∃n,l.length=n:=⟨_,rfl⟩;have HCL:=Hd (uclone_any b off c l w hn hc);have HN:=Hd hnn;rw[hnn]at hn h0 HCL ⊢;clear hc hnn h
  go_enter Tryz.func80,Tryz.ntmps80
  go_wp2_with fail
  refine HCL.out.mono ?_;rintro e w1 ⟨v,rfl,hown,hb1⟩;obtain⟨a1,c1,rfl,hnc,_⟩:=own_form hown;obtain⟨g,rfl,hg0,hg,_,hH⟩:=holds_own (by omega) hown;have HO:=Hd hH;have HS:=Hd (u64_slices_Sort_int g 0 c1 l w1 hH hg (by rw[HN.out];omega));have HB1:=Hd hb1;rw[HN.out]at HS;clear hown hb1 hH
  go_wp2_with fail
  refine HS.out.mono ?_;rintro e w2 ⟨rfl,q,os,hw2⟩;have hH2:Holds encU w2 g 0 (srt l).toArray:=by
   rw[hw2];refine holds_grow _ _ _ _ _ _ (by simpa[putRow,mapBlock,Sort.ahead]using hg) ?_;exact holds_putRow _ _ _ _ l.toArray _ (holds_ahead _ _ _ _ _ _ HO.out) (by simp)
  have hb2:Below w.heap.size w w2:=by
   rw[hw2];refine below_growU (below_putRow HB1.out hg0) ?_;have:=HB1.out.size;simpa[putRow,mapBlock,Sort.ahead]using this
  have hg2:g<w2.heap.size:=by
   rw[hw2];have:g<(putRow (Value.int .u64) (Sort.ahead w1 q) g 0 (l.mergeSort fun x y=>decide (x<=y)).toArray).heap.size:=by simpa[putRow,mapBlock,Sort.ahead]using hg
   simp only[grow,Array.size_append];omega
  have hsl:(srt l).toArray.size=n:=by simp[srt_length,HN.out]
  have HCO:=Hd (ucompact_any g 0 c1 (srt l).toArray w2 hH2 (by rw[hsl];omega) (by rw[hsl];omega));have HB2:=Hd hb2;have HO2:=Hd hH2;have HW:=Hd hg2;rw[hsl]at HCO;have HL:Hid (compactUpTo (srt l).toArray n=setF l):=by show _=_;unfold setF;rw[srt_length,HN.out]
  rw[HL.out]at HCO;clear hw2 hH2 hb2 hg2 HS
  go_wp2_with fail
  refine HCO.out.mono ?_;rintro e w3 ⟨rfl,q3,hw3⟩;have hle:(setF l).length<=n:=by rw[<- HL.out];exact cut_length _ _
  have hH3:Holds encU w3 g 0 (setF l++List.replicate (n-(setF l).length) 0).toArray:=by
   rw[hw3];exact holds_putRow _ _ _ _ (srt l).toArray _ (holds_ahead _ _ _ _ _ _ HO2.out) (by rw[hsl];simp;omega)
  have hb3:Below w.heap.size w w3:=by rw[hw3];exact below_putRow HB2.out hg0
  have hg3:g<w3.heap.size:=by rw[hw3];simpa[putRow,mapBlock,Sort.ahead]using HW.out
  have HR:Hid (RowU w3 g (setF l).length (setF l)):=by
   refine⟨hg3,fun i hi=>?_,fun j hj=>?_⟩
   ·have h1:=(hH3 i (by simp;omega)).1
    rw[Nat.zero_add]at h1;rw[h1];show some (Value.int .u64 _)=_;congr 2;unfold gw;rw[getElem!_pos _ _ (by simp;omega),List.getElem_toArray,List.getElem_append_left hi,List.getD_eq_getElem?_getD,List.getElem?_eq_getElem hi];rfl
   ·obtain⟨h1,h2⟩:=hH3 j (by simp;omega)
    rw[Nat.zero_add]at h1 h2;rw[h1];exact⟨rfl,h2⟩
  have HB3:=Hd hb3;have HG3:=Hd hg3;have HG0:=Hd hg0;have HCP:=Hd (uclip_any (some ⟨g,0,none⟩) (setF l).length c1 w3 (by omega));clear hw3 hH3 hb3 hg3 hg0
  go_wp2_with fail
  refine HCP.out.mono ?_;rintro e w4 ⟨rfl,rfl⟩;go_wp2;go_ret;exact⟨_,rfl,fun g' o s h=>by cases h;exact⟨HG0.out,HG3.out⟩,fun _=>⟨g,rfl,HR.out⟩,fun h=>(by cases h),HB3.out⟩
def Apart(v u:Value):Prop:=∀k,v.ownBlock=some k->u.ownBlock≠some k
theorem Apart.symm{v u:Value}(h:Apart v u):Apart u v:=fun k h1 h2=>h k h2 h1
theorem _root_.Go.World.ownsRow.lt_size{w:World}{base:Nat}{e:TypeId}{size:Nat}{v:Value}{n:Nat}{xs:List Value}(h:w.ownsRow base e size v n xs):∀k,v.ownBlock=some k->k<w.heap.size:=fun k hk=>(h.lt k hk).2
theorem Apart.step{v v' u:Value}{g:Nat}(h:Apart v u)(hv:v'.ownBlock=v.ownBlock∨v'.ownBlock=some g)(hu:∀k,u.ownBlock=some k->k<g):Apart v' u:=fun k h1 h2=>by
 rcases hv with e|e
 ·exact h k (e.symm.trans h1) h2
 ·have:=hu k h2
  rw[e]at h1;cases h1;omega
theorem sort_row{w:World}{base n c:Nat}{ao:Option Addr}{l:List Int}(h:w.ownsRow base 35 1 (.slice ao n c) n (uV l))(hl:l.length=n)(_hb:base<=w.heap.size)(hn:n<=1000000):
  Calls Tryz.prog 69 #[.slice ao n c] w fun e w'=>e=.returned (.tuple #[])/\w'.ownsRow base 35 1 (.slice ao n c) n (uV (srt l))/\Below base w w':=by
 by_cases h0:n=0
 ·subst h0
  obtain rfl:l=[]:=List.eq_nil_of_length_eq_zero hl;refine(u64_Sort_int_nil ao c w).mono ?_;rintro e w' ⟨rfl,rfl⟩;exact⟨rfl,by rw[show srt []=[] by simp[srt]];exact h,br⟩
 ·obtain⟨g,rfl,hg0,hg,hnc,hH⟩:=holds_own (by omega) h
  subst hl;refine(u64_slices_Sort_int g 0 c l w hH hg (by omega)).mono ?_;rintro e w' ⟨rfl,q,os,rfl⟩;have h1:=ownsRow_putRow (q:=q) (k:=l.length) (ys:=srt l) h (by rw[srt_length]) lr;rw[show (srt l).take l.length=srt l from List.take_of_length_le (by rw[srt_length];exact lr)]at h1;have hsz:(putRow encU (Sort.ahead w q) g 0 (srt l).toArray).heap.size=w.heap.size:=by simp[putRow,mapBlock,Sort.ahead]
  refine⟨rfl,own_later h1 (below_growU br lr),?_⟩;exact below_growU (below_putRow br hg0) (by show base<=(putRow encU (Sort.ahead w q) g 0 (srt l).toArray).heap.size;omega)
theorem append_words_at{w:World}{base n m c:Nat}{v:Value}{xs l:List Int}{ao:Option Addr}(hown:w.ownsRow base 35 1 v n (uV xs))(hw:WordsAt w w.heap.size ao l)(hl:l.length=m)(hz:ao=none->m=0/\c=0)(hb:base<=w.heap.size)(hn:n+m<=100000000):
  ∃v' w',(Builtin.append_ #[22,22] 22 #[v,.slice ao m c]).run Tryz.prog w=.ok v' w'/\w'.ownsRow base 35 1 v' (n+m) (uV (xs++l))/\w.grownBy w' v.ownBlock/\(v'.ownBlock=v.ownBlock∨v'.ownBlock=some w.heap.size):=by
 obtain⟨i0,hi,hz0,hz1,hz2⟩:=info_parts info_u;have hu:uV (xs++l)=uV xs++uV l:=by simp[uV]
 cases ao with
 |none=>
  obtain⟨rfl,rfl⟩:=hz rfl;obtain rfl:l=[]:=List.eq_nil_of_length_eq_zero hl;refine⟨v,w,run_append_owned_none w base 22 22 35 i0 1 Tryz.underlying22 hi v n (uV xs) hown,by simpa using hown,⟨rfl,rfl,rfl,lr,fun _ _ _=>rfl⟩,.inl rfl⟩
 |some ad=>
  have hnews:∀j u,(uV l)[j]? =some u->w.cell? (ad.add j)=some u:=fun j u hj=>by
   have hjl:j<l.length:=by have:=(List.getElem?_eq_some_iff.1 hj).1;rwa[uV_len]at this
   rw[uV_get l j hjl]at hj;cases hj;obtain⟨b,off,e,_,hc⟩:=hw (by omega);cases e;have hadd:(⟨b,off,none⟩:Addr).add j=⟨b,off+j,none⟩:=by unfold Addr.add;split <;> simp_all
   rw[hadd];exact hc j hjl
  obtain⟨v',w',hr,h2,h3,_,h5⟩:=run_append_own_at (P:=Tryz.prog) w base 22 22 35 i0 (.int .u64 0) 1 8 Tryz.underlying22 hi hz0 hz1 hz2 rfl (by decide) v n (uV xs) hown ad m c (uV l) (by rw[uV_len,hl,Nat.mul_one]) hnews (uV_cell l) (by unfold maxLen;omega) (by omega) hb;exact⟨v',w',hr,by rw[hu];exact h2,h3,h5⟩
theorem own_turn'{S:Nat->Prop}{w w':World}{base n size:Nat}{e:TypeId}{v:Value}{xs:List Value}(h:w.ownsRow base e size v n xs)(ht:Turn S w w')(hs:∀k,v.ownBlock=some k->¬S k):w'.ownsRow base e size v n xs:=by
 refine⟨h.1,?_⟩;rcases h.2 with h1|⟨g,cap,cur,hv,hbg,hh,hx⟩
 ·exact .inl h1
 ·exact .inr ⟨g,cap,cur,hv,hbg,(ht.2.2.2.2 g (Array.getElem?_eq_some_iff.1 hh).1 (hs g (by rw[hv];rfl))).trans hh,hx⟩
theorem turn_grown{w w':World}{row:Option Nat}(h:w.grownBy w' row):Turn (fun k=>some k=row) w w':=⟨h.os,h.tape,h.output,h.size,fun k hk hs=>h.block k hk hs⟩
def PkSt(B r:Nat)(w:World)(ov gv:Value)(o g M:List Int):Prop:=
 (∃ ro rc,HeapAt w r ro rc M/\∀k,Foot r ro k->B<=k/\k<w.heap.size/\ov.ownBlock≠some k/\gv.ownBlock≠some k)/\w.ownsRow B 35 1 ov o.length (uV o)/\w.ownsRow B 35 1 gv g.length (uV g)/\(ov.ownBlock=none∨ov.ownBlock≠gv.ownBlock)
theorem HeapAt.below{w w':World}{r c:Nat}{vo:Option Addr}{L:List Int}(h:HeapAt w r vo c L)(hb:Below w.heap.size w w'):HeapAt w' r vo c L:=⟨h.1.below hb,h.2⟩
theorem PkSt.later{B r:Nat}{w w':World}{ov gv:Value}{o g M:List Int}(h:PkSt B r w ov gv o g M)(hb:Below w.heap.size w w'):PkSt B r w' ov gv o g M:=by
 obtain⟨⟨ro,rc,h1,h2⟩,h3,h4,h5⟩:=h;exact⟨⟨ro,rc,h1.below hb,fun k hk=>⟨(h2 k hk).1,Nat.lt_of_lt_of_le (h2 k hk).2.1 hb.size,(h2 k hk).2.2⟩⟩,own_later h3 hb,own_later h4 hb,h5⟩
theorem PkSt.turned{B r:Nat}{w w':World}{ov gv:Value}{o g M M':List Int}(h:PkSt B r w ov gv o g M)(hs:∀ro rc,HeapAt w r ro rc M->∃ro' rc',HeapAt w' r ro' rc' M'/\Grows w r ro ro'/\Turn (Foot r ro) w w'/\(∀ g o s,ro'=some ⟨g,o,s⟩->g<w'.heap.size)):
  PkSt B r w' ov gv o g M'/\Below B w w':=by
 obtain⟨⟨ro,rc,h1,h2⟩,h3,h4,h5⟩:=h;obtain⟨ro',rc',g1,g2,g3,g4⟩:=hs ro rc h1;have k1:∀k,ov.ownBlock=some k->¬Foot r ro k:=fun k hk hf=>(h2 k hf).2.2.1 hk
 have k2:∀k,gv.ownBlock=some k->¬Foot r ro k:=fun k hk hf=>(h2 k hf).2.2.2 hk
 have hBw:B<=w.heap.size:=by have:=h2 r (.inl rfl);omega
 have hfoot:∀k,Foot r ro' k->k<w'.heap.size/\(k<w.heap.size->Foot r ro k):=fun k hk=>by
  rcases hk with rfl|⟨oo,s,e⟩
  ·exact⟨g1.1.lt,fun _=>.inl rfl⟩
  ·exact⟨g4 k oo s e,fun hlt=>g2 k oo s e hlt⟩
 refine⟨⟨⟨ro',rc',g1,fun k hk=>?_⟩,own_turn' h3 g3 k1,own_turn' h4 g3 k2,h5⟩,g3.below hBw fun k hk hf=>by have:=(h2 k hf).1;omega⟩;obtain⟨f1,f2⟩:=hfoot k hk;rcases Nat.lt_or_ge k w.heap.size with hlt|hge
 ·exact⟨(h2 k (f2 hlt)).1,f1,(h2 k (f2 hlt)).2.2⟩
 ·refine⟨by omega,f1,fun e=>?_,fun e=>?_⟩
  ·have:=(h3.lt k e).2;omega
  ·have:=(h4.lt k e).2;omega
theorem row_block{w:World}{r c:Nat}{vo:Option Addr}{L:List Int}(h:RowAt w r vo c L)(hc:0<c):∀g o s,vo=some ⟨g,o,s⟩->g<w.heap.size:=fun g o s e=>by
 obtain⟨g',e2,-,h1,-⟩:=h.2.2.2.2.1 hc;rw[e2]at e;cases e;exact h1
theorem heap_same{w:World}{r rc rc2:Nat}{ro ro2:Option Addr}{M:List Int}(h:HeapAt w r ro rc M)(h2:HeapAt w r ro2 rc2 M):ro2=ro/\rc2=rc:=by
 have a:=h.1.1;have b:=h2.1.1;rw[b]at a;cases a;exact⟨rfl,rfl⟩
theorem PkSt.popped{B r ml:Nat}{w w':World}{ov gv:Value}{o g M:List Int}{x:Int}{e:Ending}{ro:Option Addr}{rc:Nat}(h:PkSt B r w ov gv o g M)(hh:HeapAt w r ro rc M)(hm:M.length=ml+1)(hp:Popped w r ro rc M x e w'):
  e=.returned (.iface 35 (.int .u64 x))/\∃M',(x::M').Perm M/\PkSt B r w' ov gv o g M'/\Below B w w':=by
 obtain⟨he,M',p1,p2,p3⟩:=hp;refine⟨he,M',p2,h.turned (M':=M') fun ro2 rc2 h2=>?_⟩;obtain⟨rfl,rfl⟩:=heap_same hh h2;exact⟨ro2,rc2,p1,fun g o s e hlt=>.inr ⟨o,s,e⟩,p3,fun g o s e=>Nat.lt_of_lt_of_le (row_block h2.1 (by have:=h2.1.2.2.1;omega) g o s e) p3.2.2.2.1⟩
theorem PkSt.pushed{B r:Nat}{w w':World}{ov gv:Value}{o g M:List Int}{x:Int}{e:Ending}{ro:Option Addr}{rc:Nat}(h:PkSt B r w ov gv o g M)(hh:HeapAt w r ro rc M)(hp:Pushed w r ro M x e w'):
  e=.returned (.tuple #[])/\∃M',M'.Perm (x::M)/\PkSt B r w' ov gv o g M'/\Below B w w':=by
 obtain⟨he,ro',rc',M',p1,p2,p3,p4⟩:=hp;refine⟨he,M',p2,h.turned (M':=M') fun ro2 rc2 h2=>?_⟩;obtain⟨rfl,rfl⟩:=heap_same hh h2;exact⟨ro',rc',p1,p3,p4,row_block p1.1 (by have:=p1.1.2.2.1;rw[p2.length_eq]at this;simp at this;omega)⟩
theorem PkSt.out{B r:Nat}{w w':World}{ov ov' gv:Value}{o o' g M:List Int}(h:PkSt B r w ov gv o g M)(hown:w'.ownsRow B 35 1 ov' o'.length (uV o'))(hg:w.grownBy w' ov.ownBlock)(hat:ov'.ownBlock=ov.ownBlock∨ov'.ownBlock=some w.heap.size):PkSt B r w' ov' gv o' g M:=by
 obtain⟨⟨ro,rc,h1,h2⟩,h3,h4,h5⟩:=h;have hT:=turn_grown hg;refine⟨⟨ro,rc,⟨h1.1.kept hT fun k hk e=>(h2 k hk).2.2.1 e.symm,h1.2⟩,fun k hk=>⟨(h2 k hk).1,Nat.lt_of_lt_of_le (h2 k hk).2.1 hg.size,?_,(h2 k hk).2.2.2⟩⟩,hown,own_turn' h4 hT fun k hk e=>?_,?_⟩
 ·rcases hat with e|e
  ·rw[e];exact(h2 k hk).2.2.1
  ·rw[e];intro e2;cases e2;have:=(h2 _ hk).2.1;omega
 ·rcases h5 with h5|h5
  ·rw[h5]at e;cases e
  ·exact h5 (e.symm.trans hk.symm)
 ·rcases hat with e|e
  ·rw[e];exact h5
  ·right;rw[e];intro e2;have:=(h4.lt _ e2.symm).2;omega
theorem PkSt.grp{B r:Nat}{w w':World}{ov gv gv':Value}{o g g' M:List Int}(h:PkSt B r w ov gv o g M)(hown:w'.ownsRow B 35 1 gv' g'.length (uV g'))(hg:w.grownBy w' gv.ownBlock)(hat:gv'.ownBlock=gv.ownBlock∨gv'.ownBlock=some w.heap.size):PkSt B r w' ov gv' o g' M:=by
 obtain⟨⟨ro,rc,h1,h2⟩,h3,h4,h5⟩:=h;have hT:=turn_grown hg;refine⟨⟨ro,rc,⟨h1.1.kept hT fun k hk e=>(h2 k hk).2.2.2 e.symm,h1.2⟩,fun k hk=>⟨(h2 k hk).1,Nat.lt_of_lt_of_le (h2 k hk).2.1 hg.size,(h2 k hk).2.2.1,?_⟩⟩,own_turn' h3 hT fun k hk e=>?_,hown,?_⟩
 ·rcases hat with e|e
  ·rw[e];exact(h2 k hk).2.2.2
  ·rw[e];intro e2;cases e2;have:=(h2 _ hk).2.1;omega
 ·rcases h5 with h5|h5
  ·rw[h5]at hk;cases hk
  ·exact h5 (hk.trans e)
 ·rcases h5 with h5|h5
  ·exact .inl h5
  ·right
   rcases hat with e|e
   ·rw[e];exact h5
   ·rw[e];intro e2;have:=(h3.lt _ e2).2;omega
theorem PkSt.none{B r:Nat}{w:World}{ov gv:Value}{o g M:List Int}(h:PkSt B r w ov gv o g M):PkSt B r w ov (.slice none 0 0) o [] M:=by
 obtain⟨⟨ro,rc,h1,h2⟩,h3,h4,h5⟩:=h;refine⟨⟨ro,rc,h1,fun k hk=>⟨(h2 k hk).1,(h2 k hk).2.1,(h2 k hk).2.2.1,fun e=>by cases e⟩⟩,h3,World.ownsRow_nil _ _ _ _,?_⟩;by_cases e:ov.ownBlock=Option.none
 ·exact .inl e
 ·exact .inr e
theorem heap_dn{L:List Int}(h:Dn L):Heap L.length L:=fun j h1 h2=>by
 have hp:par j<j:=by unfold par;omega
 rw[less_not];unfold gw;rw[List.getD_eq_getElem?_getD,List.getElem?_eq_getElem h2,List.getD_eq_getElem?_getD,List.getElem?_eq_getElem (by omega),Option.getD_some,Option.getD_some];have:=List.pairwise_iff_getElem.1 h (par j) j (by omega) h2 hp;omega
theorem heap_max{L:List Int}(h:Heap L.length L):∀x∈L,x<=gw L 0:=fun x hx=>by
 obtain⟨i,hi,rfl⟩:=mem_gw hx;have:=heap_min h i hi
 rwa[less_not]at this
end
section
open Go.RowKit Go.Lib Wd
def dsN:Nat->Nat->E2->List Int
 |0,k,z=>[(wordN k z:Int)]
 |d+1,k,z=>(List.range 7).flatMap fun i=>dsN d (k+1) (downE z i)
def dsV(R:Nat)(v:Int):List Int:=dsN (R-rW v.toNat) (rW v.toNat) (zW v.toNat)
def sprE(l:List Int)(r:Int):Int:=if szE l r=0 then(if 20000<sumS r.toNat l then 7 else 0)else szE l r
def sprL(l:List Int)(r:Int):List Int:=if sprE l r=0 then setF (l.flatMap (dsV r.toNat))else []
end
section
open Go.RowKit Go.Lib Go.Sort Wd
def cmpE(l:List Int):Int:=if 20000<l.length then 7 else if l=[]then 0 else alkE l
def cmpL(l:List Int):List Int:=if cmpE l=0 then packF (rW (l.getD 0 0).toNat) l else []
def ToldP(w:World)(L:List Int)(err:Int)(e:Ending)(w':World):Prop:=
 ∃ao c,e=.returned (.tuple #[.slice ao L.length c,.int .i64 err])/\w'.ownsRow w.heap.size 35 1 (.slice ao L.length c) L.length (uV L)/\Below w.heap.size w w'
theorem chk_sized{r:Int}:∀{l:List Int},chkF r l=0->∀v∈l,isW v.toNat=true/\(rW v.toNat:Int)=r
 |[],_,v,hv=>by cases hv
 |x::l,h,v,hv=>by
  unfold chkF at h
  split at h
  ·next h1=>
   split at h
   ·next h2=>
    rcases List.mem_cons.1 hv with rfl|hv
    ·exact⟨h1,h2⟩
    ·exact chk_sized h v hv
   ·cases h
  ·cases h
theorem alk_sized{l:List Int}(h64:In64 l)(h:alkE l=0)(h0:l≠[]):rW (l.getD 0 0).toNat<=12/\Sized (rW (l.getD 0 0).toNat) l:=by
 unfold alkE at h
 split at h
 ·next ha=>
  have hw0:isW (l.getD 0 0).toNat=true:=List.all_eq_true.1 ha _ (getD_mem (List.length_pos_iff.2 h0));have e:resW (l.getD 0 0).toNat=(rW (l.getD 0 0).toNat:Int):=by unfold resW;rw[if_pos hw0]
  rw[e]at h;have hc:=chk_sized h;refine⟨((isW_iff _).1 hw0).2.1,fun v hv=>?_⟩;obtain⟨c1,c2⟩:=hc v hv;obtain⟨d1,d2⟩:=cell_word c1;have e2:rW v.toNat=rW (l.getD 0 0).toNat:=by omega
  have:=h64 v hv;refine⟨zW v.toNat,by rw[<- e2];exact d1,?_⟩;rw[<- e2,d2];omega
 ·cases h
theorem rev_row{w:World}{r c n:Nat}{vo:Option Addr}{L:List Int}(h:RowAt w r vo c L)(hn:L.length=n)(hbig:n<=1000000):
  Calls Tryz.prog 81 #[.slice vo n c] w fun e w'=>e=.returned (.tuple #[])/\RowAt w' r vo c L.reverse/\Turn (Foot r vo) w w':=by
 by_cases h0:n=0
 ·subst h0
  obtain rfl:L=[]:=List.eq_nil_of_length_eq_zero hn;refine(rev_nil vo c w).mono ?_;rintro e w' ⟨rfl,rfl⟩;exact⟨rfl,h,Turn.refl _ _⟩
 ·have hnc:n<=c:=by have:=h.2.2.1;omega
  obtain⟨g,rfl,hgr,hU⟩:=h.2.2.2.2.1 (by omega);refine(rev_any hU hn hnc hbig).mono ?_;rintro e w' ⟨rfl,hU2,hT⟩;obtain⟨k0,k1,k2,k3,k4,k5,k6⟩:=h;have er:w'.heap[r]? =w.heap[r]? :=hT.2.2.2.2 r (World.block_lt_of_cell? w _ k0) (fun e=>hgr e.symm);refine⟨rfl,⟨by rw[List.length_reverse];exact(World.cell?_of_block (a:=⟨r,0,none⟩) er).trans k0,fun j=>(World.frozen?_of_block (a:=⟨r,j,none⟩) er).trans (k1 j),by rw[List.length_reverse];exact k2,k3,fun _=>⟨g,rfl,hgr,hU2⟩,fun v hv=>k5 v (List.mem_reverse.1 hv),by rw[List.length_reverse];exact k6⟩,?_⟩;exact hT.trans (T:=fun _=>False) (Turn.refl _ _) (fun _ _ h=>h.elim) |>.trans (T:=fun _=>False) (Turn.refl _ _) (fun _ _ h=>h.elim) |> fun h=>⟨h.1,h.2.1,h.2.2.1,h.2.2.2.1,fun k hk hs=>h.2.2.2.2 k hk fun e=>hs (by subst e;exact .inr ⟨0,none,rfl⟩)⟩
theorem word_lt{k:Nat}{w:Int}(h:∃z,okB k z=true/\w=(wordN k z:Int)):∃u:Nat,w=u/\u<18446744073709551616:=by
 obtain⟨z,hz,rfl⟩:=h;exact⟨_,rfl,by have:=(wordN_lt hz).1;omega⟩
theorem row_new{w:World}{so:Option Addr}{m:Nat}{L:List Int}(hL:L.length=m)(h1:0<m->∃g,so=some ⟨g,0,none⟩/\RowU w g m L)(h2:so=none->m=0)(h64:In64 L)(hm:m<=1000000):RowAt (w.alloc (.cells #[.slice so m m] 123)) w.heap.size so m L:=by
 have hnew:=heap_new w (.cells #[.slice so m m] 123) _ rfl;refine⟨by rw[hL];exact cell_of_row _ _ 0 _ _ _ hnew,fun j=>by unfold World.frozen?;rw[hnew];simp,by omega,h2,fun h0=>?_,h64,by omega⟩;obtain⟨g,e,hU⟩:=h1 h0;exact⟨g,e,by have:=hU.1;omega,hU.kept (S:=fun _=>False) (Turn.of_below (br.alloc lr _)) fun h=>h⟩
theorem own_val{w:World}{B n:Nat}{ao:Option Addr}{c:Nat}{l:List Int}(h:w.ownsRow B 35 1 (.slice ao n c) n (uV l))(hz:0<n)(hl:l.length=n):∃g,ao=some ⟨g,0,none⟩/\g<w.heap.size/\w.cell? ⟨g,0,none⟩=some (.int .u64 (l.getD 0 0)):=by
 obtain⟨ao',c',e,-,h2⟩:=own_form h;cases e;obtain⟨g,rfl,-,h3,h4⟩:=h2 hz;exact⟨g,rfl,h3,h4 0 _ (uV_get l 0 (by omega))⟩
theorem own_none{w:World}{B n c:Nat}{ao:Option Addr}{xs:List Value}(h:w.ownsRow B 35 1 (.slice ao n c) n xs):ao=none->n=0/\c=0:=fun e=>by
 subst e;rcases h.2 with⟨h1,-⟩|⟨g,cap,cur,hv,-⟩
 ·cases h1;exact⟨rfl,rfl⟩
 ·cases hv
theorem flush_none(o:List Int)(x:Int):mFlush ⟨o,[],[]⟩ x=⟨o,[],[]⟩:=by unfold mFlush;rw[if_neg (by simp)]
theorem flush_no{o g:List Int}{x:Int}(h:broB (g.getD 0 0) x=true):mFlush ⟨o,g,[]⟩ x=⟨o,g,[]⟩:=by unfold mFlush;rw[if_neg (fun h2=>by have h3:=h2.2;rw[h]at h3;cases h3)]
theorem flush_yes{o g:List Int}{x:Int}(h0:g≠[])(h:broB (g.getD 0 0) x=false):mFlush ⟨o,g,[]⟩ x=⟨o++g,[],[]⟩:=by unfold mFlush;rw[if_pos ⟨h0,h⟩]
theorem compact_any(ao:Option Addr)(c:Nat)(l:List Int)(w:World)(B:Nat)(h:WordsAt w B ao l)(hB:B<=w.heap.size)(hn:l.length<=1000000)(h64:In64 l):
  Calls Tryz.prog 48 #[.slice ao l.length c] w (ToldP w (cmpL l) (cmpE l)):=by
 obtain⟨i0,hi,hz0,hz1,hz2⟩:=info_parts info_u;have HNIL:Hid (∀ err w',Below w.heap.size w w'->cmpE l=err->err≠0->ToldP w (cmpL l) (cmpE l) (.returned (.tuple #[.slice none 0 0,.int .i64 err])) w'):=fun err w' hb he h0=>by
  have:cmpL l=[]:=by unfold cmpL;rw[if_neg (by rw[he];exact h0)]
  rw[this,he];exact⟨none,0,rfl,World.ownsRow_nil _ _ _ _,hb⟩
 obtain⟨n,hnn⟩:∃n,l.length=n:=⟨_,rfl⟩;have HN:=Hd hnn;have HW:=Hd h;have H64:=Hd h64;have hcase:20000<n∨(n<=20000/\0<n/\alkE l≠0)∨(n<=20000/\n=0)∨(n<=20000/\0<n/\alkE l=0):=by
  by_cases h1:20000<n
  ·exact .inl h1
  ·by_cases h2:n=0
   ·exact .inr (.inr (.inl ⟨by omega,h2⟩))
   ·by_cases h3:alkE l=0
    ·exact .inr (.inr (.inr ⟨by omega,by omega,h3⟩))
    ·exact .inr (.inl ⟨by omega,by omega,h3⟩)
 have HAL:Hid (0<n->∀w,B<=w.heap.size->WordsAt w B ao l->Calls Tryz.prog 79 #[.slice ao n c] w fun e w'=>e=.returned (.int .i64 (alkE l))/\Below w.heap.size w w'):=fun h0 wx hb hwx=>by
  have:=alike_any ao c l wx B hwx hb (by omega) (by omega) h64
  rwa[hnn]at this
 rw[hnn]at hn ⊢;clear h h64 hnn;rcases hcase with hbig|⟨hs,h0,hE⟩|hcase
 ·have q1:decide (20000<(n:Int))=true:=decide_eq_true (by omega)
  have q1n:decide (20000<n)=true:=decide_eq_true (by omega);have HF:=Hd (HNIL.out 7 w br (by unfold cmpE;rw[if_pos (by rw[HN.out];exact hbig)]) (by decide));clear hbig
  go_enter Tryz.func48,Tryz.ntmps48
  go_wp2;go_ret2;exact HF.out
 ·have q1:decide (20000<(n:Int))=false:=decide_eq_false (by omega)
  have q1n:decide (20000<n)=false:=decide_eq_false (by omega);have q2:decide (0<(n:Int))=true:=decide_eq_true (by omega);have q2n:decide (0<n)=true:=decide_eq_true (by omega);have hA:=HAL.out h0 w hB HW.out;have hF:=fun w' hb=>HNIL.out (alkE l) w' hb (by unfold cmpE;rw[if_neg (by rw[HN.out];omega),if_neg (fun e=>by have:=HN.out;rw[e]at this;simp at this;omega)]) hE
  generalize alkE l=E at *;have q3:(E != 0)=true:=by simp[hE]
  have HA:=Hd hA;have HF:=Hd hF;clear hs h0 hE hA hF
  go_enter Tryz.func48,Tryz.ntmps48
  go_wp2_with fail
  refine HA.out.mono ?_;rintro e w1 ⟨rfl,hb1⟩;have HFF:=Hd (HF.out w1 hb1);clear hb1;go_wp2;go_ret2;exact HFF.out
 ·
  obtain⟨r,hr,hsz,hEr,hLr⟩:∃r,r<=12/\Sized r l/\cmpE l=0/\cmpL l=packF r l:=by
   rcases hcase with⟨h1,h2⟩|⟨h1,h2,h3⟩
   ·obtain rfl:l=[]:=List.eq_nil_of_length_eq_zero (by rw[HN.out];exact h2)
    refine⟨rW (([]:List Int).getD 0 0).toNat,by decide,fun v hv=>(by cases hv),by unfold cmpE;simp,?_⟩;unfold cmpL;rw[if_pos (by unfold cmpE;simp)]
   ·have hne:l≠[]:=fun e=>by have:=HN.out;rw[e]at this;simp at this;omega
    have hE:cmpE l=0:=by unfold cmpE;rw[if_neg (by rw[HN.out];omega),if_neg hne];exact h3
    obtain⟨a1,a2⟩:=alk_sized H64.out h3 hne;exact⟨_,a1,a2,hE,by unfold cmpL;rw[if_pos hE]⟩
  have HEND:Hid (∀ (R:List Int) (w':World) (ao:Option Addr) (c:Nat),resM r (setF l).reverse ⟨[],[],[]⟩=R->w'.ownsRow w.heap.size 35 1 (.slice ao (srt R).length c) (srt R).length (uV (srt R))->Below w.heap.size w w'->ToldP w (cmpL l) (cmpE l) (.returned (.tuple #[.slice ao (srt R).length c,.int .i64 0])) w'):=fun R w' ao c hR ho hb=>by
   have e:=pack_end hr hsz hR;rw[hLr,hEr, <-e];exact⟨ao,c,rfl,ho,hb⟩
  have hsl:(setF l).length<=n:=by have:=setF_length l;rw[HN.out]at this;exact this
  have HST:Hid (∀ M,M.Perm (setF l).reverse->Run (resM r (setF l).reverse ⟨[],[],[]⟩) [] [] M):=fun M hM=>run_start hr hsz hM
  have HUP:Hid (Dn (setF l).reverse):=(setF_up l).rev;have HSET:Hid (∀ wx,Below w.heap.size w wx->Calls Tryz.prog 80 #[.slice ao n c] wx (SetRow wx (setF l))):=fun wx hb=>by
   have:=uset_row ao c l wx B (HW.out.below hb hB) (by rw[HN.out];omega)
   rwa[HN.out]at this
  have HS64:Hid (In64 (setF l)):=fun v hv=>H64.out v ((setF_mem l v).1 hv)
  obtain⟨R0,hR0⟩:∃R0,resM r (setF l).reverse ⟨[],[],[]⟩=R0:=⟨_,rfl⟩;rw[hR0]at HST;have HR0:=Hd hR0;generalize setF l=S at *;clear hR0 hsz hEr hLr;rcases hcase with⟨h1,h2⟩|⟨h1,h2,h3⟩
  case inl=>
   subst h2
   go_enter Tryz.func48,Tryz.ntmps48
   go_upto_region 7 with(fail)
   have HBA:Hid (Below w.heap.size w w):=br
   go_wp2_with fail
   refine(HSET.out _ HBA.out).mono ?_;rintro e wS ⟨so,rfl,hs1,hs2,hs3,hbS⟩;have HBS:=Hd (HBA.out.trans (hbS.mono HBA.out.size));have HS1:Hid (∀ g o s,so=some ⟨g,o,s⟩->w.heap.size<=g/\g<wS.heap.size):=fun g o s e=>⟨Nat.le_trans HBA.out.size (hs1 g o s e).1,(hs1 g o s e).2⟩
   have HS2:=Hd hs2;have HS3:=Hd hs3;clear hs1 hs2 hs3 hbS HBA HSET;obtain⟨m,hm⟩:∃m,S.length=m:=⟨_,rfl⟩;have HM:=Hd hm;rw[hm]at hsl ⊢;clear hm
   go_upto_region 8 with(fail)
   have hrw:RowAt (wS.alloc (.cells #[.slice so m m] 123)) wS.heap.size so m S:=row_new HM.out (fun h0=>by
    obtain⟨g,e,hU⟩:=HS2.out (by rw[HM.out];exact h0);rw[HM.out]at hU;exact⟨g,e,hU⟩) (fun e=>by rw[<- HM.out];exact HS3.out e) HS64.out (by omega)
   have HRW:=Hd hrw;have HB2:Hid (Below w.heap.size w (wS.alloc (.cells #[.slice so m m] 123))):=HBS.out.alloc HBS.out.size _;have HR0L:Hid (w.heap.size<=wS.heap.size):=HBS.out.size;clear hrw HS2 HS3 HBS;generalize wS.alloc (.cells #[.slice so m m] 123)=w2 at *;generalize wS.heap.size=r0 at *;have c0:=HRW.out.head HM.out;have HREV:=Hd (rev_row HRW.out HM.out (by omega))
   go_wp2_with fail
   refine HREV.out.mono ?_;rintro e w3 ⟨rfl,hr3,ht3⟩;have hh3:HeapAt w3 r0 so m S.reverse:=⟨hr3,heap_dn HUP.out⟩;have HNF:Hid (∀ k,k<w.heap.size->¬Foot r0 so k):=fun k hk hf=>by
    rcases hf with rfl|⟨o,s,e⟩
    ·have:=HR0L.out;omega
    ·have:=(HS1.out k o s e).1;omega
   have HB3:=Hd (HB2.out.trans (ht3.below HB2.out.size HNF.out));have HINI:=Hd (hinit_any hh3);unfold ifc at HINI;clear hr3 ht3 hh3 HREV c0 HRW HB2
   go_wp2_with fail
   refine HINI.out.mono ?_;rintro e w4 ⟨rfl,hh4,ht4⟩;have HB4:=Hd (HB3.out.trans (ht4.below HB3.out.size HNF.out));have HP4:Hid (PkSt w.heap.size r0 w4 (.slice none 0 0) (.slice none 0 0) [] [] S.reverse):=by
    refine⟨⟨so,m,hh4,fun k hk=>⟨?_,?_,by simp[Value.ownBlock],by simp[Value.ownBlock]⟩⟩,World.ownsRow_nil _ _ _ _,World.ownsRow_nil _ _ _ _,.inl rfl⟩
    ·rcases Nat.lt_or_ge k w.heap.size with h|h
     ·exact absurd hk (HNF.out k h)
     ·exact h
    ·rcases hk with rfl|⟨o,s,e⟩
     ·exact hh4.1.lt
     ·have h5:=(HS1.out k o s e).2
      have h6:=hh4.1.lt;omega
   have HRUN:=Hd (HST.out _ (List.Perm.refl _));have HLN:Hid (S.reverse.length=m):=by show _=_;rw[List.length_reverse,HM.out]
   have HR64:Hid (In64 S.reverse):=fun v hv=>HS64.out v (by simpa using hv)
   have hm2:m<=20000:=by omega
   have hta:∀(x:Int) (w:World),(Instr.typeAssert (.iface 35 (.int .u64 x)) 20 35 true).run Tryz.prog w=.ok (.tuple #[.int .u64 x,.bool true]) w:=fun _ _=>by kernel_rfl
   generalize S.reverse=F at *;clear hh4 ht4 HINI HB3 HST HUP HS64 HNF HS1;go_wp2
   go_loopg [6,7] (8*m) (fun q ov gv wr=>∃(o g M:List Int) (on gn ml:Nat) (oo gg:Option Addr) (oc gc:Nat),ov=.slice oo on oc/\gv=.slice gg gn gc/\on+gn+ml<=m/\gn<7/\8*ml+gn<=q/\Hid (o.length=on/\g.length=gn/\M.length=ml/\Run R0 o g M/\In64 g/\In64 M/\PkSt w.heap.size r0 wr (.slice oo on oc) (.slice gg gn gc) o g M/\Below w.heap.size w wr))
   case atStart=>exact⟨[],[],F,0,0,m,none,none,0,0,rfl,rfl,by omega,by omega,by omega,rfl,rfl,HLN.out,HRUN.out,fun v hv=>(by cases hv),HR64.out,HP4.out,HB4.out⟩
   case round=>
    obtain⟨o,g,M,on,gn,ml,oo,gg,oc,gc,rfl,rfl,hsum,hg7,hq,HI⟩:=hrel;have hk:=HI.out.2.2.2.2.2.2.1;obtain⟨⟨ro,rc,hh,hf⟩,-⟩:=hk;have c0:=hh.1.head HI.out.2.2.1;have hr0:=hh.1.lt;have HH:=Hd hh;have HLEN:=Hd (plen_any ro ml rc wr);clear hh hf;by_cases hml:ml=0
    ·subst hml
     have hM0:M=[]:=List.eq_nil_of_length_eq_zero HI.out.2.2.1;have hre:R0=o++g:=run_end (by have:=HI.out.2.2.2.1;rwa[hM0]at this);have HRE:=Hd hre;have hown:=HI.out.2.2.2.2.2.2.1.2.1;have hgw:=HI.out.2.2.2.2.2.2.1.2.2.1;rw[HI.out.1]at hown;rw[HI.out.2.1]at hgw;have hbr:=HI.out.2.2.2.2.2.2.2;obtain⟨v3,w7,hrun,hown7,hg7',hat7⟩:=append_words_at hown (words_own HI.out.2.1.symm hgw) HI.out.2.1 (own_none hgw) hbr.size (by omega);have HRUN7:=Hd hrun;obtain⟨oo1,oc1,rfl,-⟩:=own_form hown7;have hl7:(o++g).length=on+gn:=by rw[List.length_append,HI.out.1,HI.out.2.1]
     have hb7:=below_append hbr hown hbr.size hg7';have HB7:=Hd hb7;obtain⟨nn,hnn2⟩:∃nn,on+gn=nn:=⟨_,rfl⟩;rw[hnn2]at hown7 hl7 HRUN7;have HSORT:=Hd (sort_row hown7 hl7 hb7.size (by omega));have HL7:=Hd hl7;clear hM0 hre hown hgw hbr hrun hown7 hg7' hat7 hl7 hb7 hnn2 HH HI hsum hg7 hq
     go_wp2_with fail
     refine HLEN.out.mono ?_;rintro e w5 ⟨rfl,rfl⟩
     go_wp2_with(at_builtin;refine wpList_append_want _ (by kernel_rfl) (.tmp 68) (.tmp 69) 22 22 rfl _ _ rfl rfl _ _ HRUN7.out ?_)
     refine HSORT.out.mono ?_;rintro e w8 ⟨rfl,ho8,hb8⟩;have HF:Hid (ToldP w (cmpL l) (cmpE l) (.returned (.tuple #[.slice oo1 nn oc1,.int .i64 0])) w8):=by
      have hs8:(srt R0).length=nn:=by rw[srt_length,HRE.out,HL7.out]
      have:=HEND.out R0 w8 oo1 oc1 HR0.out (by rw[hs8,HRE.out];exact ho8) (HB7.out.trans (hb8.mono lr))
      rwa[hs8]at this
     clear ho8 hb8;go_wp2;go_ret2;exact HF.out
    ·exfalso
     omega
  case inr=>
   have q1:decide (20000<(n:Int))=false:=decide_eq_false (by omega);have q1n:decide (20000<n)=false:=decide_eq_false (by omega);have q2:decide (0<(n:Int))=true:=decide_eq_true (by omega);have q2n:decide (0<n)=true:=decide_eq_true (by omega);have hA:=HAL.out h2 w hB HW.out;rw[h3]at hA;have HA:=Hd hA;clear hA h3
   go_enter Tryz.func48,Tryz.ntmps48
   go_wp2_with fail
   refine HA.out.mono ?_;rintro e wA ⟨rfl,hbA⟩;have HBA:=Hd hbA;clear hbA HA
   go_upto_region 7 with(fail)
   go_wp2_with fail
   refine(HSET.out _ HBA.out).mono ?_;rintro e wS ⟨so,rfl,hs1,hs2,hs3,hbS⟩;have HBS:=Hd (HBA.out.trans (hbS.mono HBA.out.size));have HS1:Hid (∀ g o s,so=some ⟨g,o,s⟩->w.heap.size<=g/\g<wS.heap.size):=fun g o s e=>⟨Nat.le_trans HBA.out.size (hs1 g o s e).1,(hs1 g o s e).2⟩
   have HS2:=Hd hs2;have HS3:=Hd hs3;clear hs1 hs2 hs3 hbS HBA HSET;obtain⟨m,hm⟩:∃m,S.length=m:=⟨_,rfl⟩;have HM:=Hd hm;rw[hm]at hsl ⊢;clear hm
   go_upto_region 8 with(fail)
   have hrw:RowAt (wS.alloc (.cells #[.slice so m m] 123)) wS.heap.size so m S:=row_new HM.out (fun h0=>by
    obtain⟨g,e,hU⟩:=HS2.out (by rw[HM.out];exact h0);rw[HM.out]at hU;exact⟨g,e,hU⟩) (fun e=>by rw[<- HM.out];exact HS3.out e) HS64.out (by omega)
   have HRW:=Hd hrw;have HB2:Hid (Below w.heap.size w (wS.alloc (.cells #[.slice so m m] 123))):=HBS.out.alloc HBS.out.size _;have HR0L:Hid (w.heap.size<=wS.heap.size):=HBS.out.size;clear hrw HS2 HS3 HBS;generalize wS.alloc (.cells #[.slice so m m] 123)=w2 at *;generalize wS.heap.size=r0 at *;have c0:=HRW.out.head HM.out;have HREV:=Hd (rev_row HRW.out HM.out (by omega))
   go_wp2_with fail
   refine HREV.out.mono ?_;rintro e w3 ⟨rfl,hr3,ht3⟩;have hh3:HeapAt w3 r0 so m S.reverse:=⟨hr3,heap_dn HUP.out⟩;have HNF:Hid (∀ k,k<w.heap.size->¬Foot r0 so k):=fun k hk hf=>by
    rcases hf with rfl|⟨o,s,e⟩
    ·have:=HR0L.out;omega
    ·have:=(HS1.out k o s e).1;omega
   have HB3:=Hd (HB2.out.trans (ht3.below HB2.out.size HNF.out));have HINI:=Hd (hinit_any hh3);unfold ifc at HINI;clear hr3 ht3 hh3 HREV c0 HRW HB2
   go_wp2_with fail
   refine HINI.out.mono ?_;rintro e w4 ⟨rfl,hh4,ht4⟩;have HB4:=Hd (HB3.out.trans (ht4.below HB3.out.size HNF.out));have HP4:Hid (PkSt w.heap.size r0 w4 (.slice none 0 0) (.slice none 0 0) [] [] S.reverse):=by
    refine⟨⟨so,m,hh4,fun k hk=>⟨?_,?_,by simp[Value.ownBlock],by simp[Value.ownBlock]⟩⟩,World.ownsRow_nil _ _ _ _,World.ownsRow_nil _ _ _ _,.inl rfl⟩
    ·rcases Nat.lt_or_ge k w.heap.size with h|h
     ·exact absurd hk (HNF.out k h)
     ·exact h
    ·rcases hk with rfl|⟨o,s,e⟩
     ·exact hh4.1.lt
     ·have h5:=(HS1.out k o s e).2
      have h6:=hh4.1.lt;omega
   have HRUN:=Hd (HST.out _ (List.Perm.refl _));have HLN:Hid (S.reverse.length=m):=by show _=_;rw[List.length_reverse,HM.out]
   have HR64:Hid (In64 S.reverse):=fun v hv=>HS64.out v (by simpa using hv)
   have hm2:m<=20000:=by omega
   have hta:∀(x:Int) (w:World),(Instr.typeAssert (.iface 35 (.int .u64 x)) 20 35 true).run Tryz.prog w=.ok (.tuple #[.int .u64 x,.bool true]) w:=fun _ _=>by kernel_rfl
   generalize S.reverse=F at *;clear hh4 ht4 HINI HB3 HST HUP HS64 HNF HS1;go_wp2
   go_loopg [6,7] (8*m) (fun q ov gv wr=>∃(o g M:List Int) (on gn ml:Nat) (oo gg:Option Addr) (oc gc:Nat),ov=.slice oo on oc/\gv=.slice gg gn gc/\on+gn+ml<=m/\gn<7/\8*ml+gn<=q/\Hid (o.length=on/\g.length=gn/\M.length=ml/\Run R0 o g M/\In64 g/\In64 M/\PkSt w.heap.size r0 wr (.slice oo on oc) (.slice gg gn gc) o g M/\Below w.heap.size w wr))
   case atStart=>exact⟨[],[],F,0,0,m,none,none,0,0,rfl,rfl,by omega,by omega,by omega,rfl,rfl,HLN.out,HRUN.out,fun v hv=>(by cases hv),HR64.out,HP4.out,HB4.out⟩
   case round=>
    obtain⟨o,g,M,on,gn,ml,oo,gg,oc,gc,rfl,rfl,hsum,hg7,hq,HI⟩:=hrel;have hk:=HI.out.2.2.2.2.2.2.1;obtain⟨⟨ro,rc,hh,hf⟩,-⟩:=hk;have c0:=hh.1.head HI.out.2.2.1;have hr0:=hh.1.lt;have HH:=Hd hh;have HLEN:=Hd (plen_any ro ml rc wr);clear hh hf;by_cases hml:ml=0
    ·subst hml
     have hM0:M=[]:=List.eq_nil_of_length_eq_zero HI.out.2.2.1;have hre:R0=o++g:=run_end (by have:=HI.out.2.2.2.1;rwa[hM0]at this);have HRE:=Hd hre;have hown:=HI.out.2.2.2.2.2.2.1.2.1;have hgw:=HI.out.2.2.2.2.2.2.1.2.2.1;rw[HI.out.1]at hown;rw[HI.out.2.1]at hgw;have hbr:=HI.out.2.2.2.2.2.2.2;obtain⟨v3,w7,hrun,hown7,hg7',hat7⟩:=append_words_at hown (words_own HI.out.2.1.symm hgw) HI.out.2.1 (own_none hgw) hbr.size (by omega);have HRUN7:=Hd hrun;obtain⟨oo1,oc1,rfl,-⟩:=own_form hown7;have hl7:(o++g).length=on+gn:=by rw[List.length_append,HI.out.1,HI.out.2.1]
     have hb7:=below_append hbr hown hbr.size hg7';have HB7:=Hd hb7;obtain⟨nn,hnn2⟩:∃nn,on+gn=nn:=⟨_,rfl⟩;rw[hnn2]at hown7 hl7 HRUN7;have HSORT:=Hd (sort_row hown7 hl7 hb7.size (by omega));have HL7:=Hd hl7;clear hM0 hre hown hgw hbr hrun hown7 hg7' hat7 hl7 hb7 hnn2 HH HI hsum hg7 hq
     go_wp2_with fail
     refine HLEN.out.mono ?_;rintro e w5 ⟨rfl,rfl⟩
     go_wp2_with(at_builtin;refine wpList_append_want _ (by kernel_rfl) (.tmp 68) (.tmp 69) 22 22 rfl _ _ rfl rfl _ _ HRUN7.out ?_)
     refine HSORT.out.mono ?_;rintro e w8 ⟨rfl,ho8,hb8⟩;have HF:Hid (ToldP w (cmpL l) (cmpE l) (.returned (.tuple #[.slice oo1 nn oc1,.int .i64 0])) w8):=by
      have hs8:(srt R0).length=nn:=by rw[srt_length,HRE.out,HL7.out]
      have:=HEND.out R0 w8 oo1 oc1 HR0.out (by rw[hs8,HRE.out];exact ho8) (HB7.out.trans (hb8.mono lr))
      rwa[hs8]at this
     clear ho8 hb8;go_wp2;go_ret2;exact HF.out
    ·obtain⟨k,rfl⟩:∃k,ml=k+1:=⟨ml-1,by omega⟩
     have q4:decide (0<((k+1:Nat):Int))=true:=decide_eq_true (by omega);have q4n:decide (0<k+1)=true:=decide_eq_true (by omega);have HPOP:=Hd (hpop_any HH.out HI.out.2.2.1);unfold ifc at HPOP;have HMX:=Hd (heap_max HH.out.2)
     go_wp2_with fail
     refine HLEN.out.mono ?_;rintro e w5 ⟨rfl,rfl⟩
     go_wp2_with fail
     refine HPOP.out.mono ?_;intro e w5 hp;obtain⟨rfl,M',hperm,hpk,hbp⟩:=HI.out.2.2.2.2.2.2.1.popped HH.out HI.out.2.2.1 hp;obtain⟨hwd,-,hst7,hst1⟩:=run_step HI.out.2.2.2.1 hperm.symm HMX.out;obtain⟨kk,hk12,hwd⟩:=hwd;obtain⟨u,hu,hu64⟩:=word_lt hwd;rw[hu]at hperm hst7 hst1 ⊢;have HS7:=Hd hst7;have HS1:=Hd hst1;have HM':Hid (M'.length=k/\In64 M'):=⟨by have:=hperm.length_eq;rw[HI.out.2.2.1]at this;simpa using this,fun v hv=>HI.out.2.2.2.2.2.1 v (hperm.subset (List.mem_cons_of_mem _ hv))⟩;have HP5:=Hd hpk;have HB5:=Hd (HI.out.2.2.2.2.2.2.2.trans hbp);have HG:=Hd HI.out.2.2.2.2.1;have HOL:Hid (o.length=on/\g.length=gn):=⟨HI.out.1,HI.out.2.1⟩;clear hp hperm hpk hbp hwd hst7 hst1 hu HPOP HMX HLEN HH HI c0 hr0;have hcase:(gn=0∨(0<gn/\broB (g.getD 0 0) u=false))∨(0<gn/\broB (g.getD 0 0) u=true):=by
      by_cases h:gn=0
      ·exact .inl (.inl h)
      ·cases hb:broB (g.getD 0 0) u with
       |false=>exact .inl (.inr ⟨by omega,rfl⟩)
       |true=>exact .inr ⟨by omega,rfl⟩
     rcases hcase with hcase|⟨hg0,hb⟩
     ·
      rcases hcase with hg0|⟨hg0,hb⟩
      case' inl=>
       subst hg0;obtain rfl:g=[]:=List.eq_nil_of_length_eq_zero HOL.out.2;have q6:decide (0<(0:Int))=false:=rfl;have q6n:decide (0<0)=false:=rfl;rw[flush_none]at HS1;have HPX:=HP5;have HBX:=HB5;have HXL:Hid (o.length=on):=HOL.out.1;have HXR:Hid (Run R0 o ([]++[(u:Int)]) M'):=HS1.out (by simp);have hsumX:on+0+(k+1)<=m:=hsum;have hqX:=Nat.le_trans (show 8*(k+1)<=_ from Nat.le_add_right _ _) hq
       go_upto_region 16 with(fail)
       obtain⟨wX,rfl⟩:∃wX,wX=w5:=⟨_,rfl⟩;clear HP5 HB5 HS1 HS7 HOL HG hsum hq
      case' inr=>
       have hne:g≠[]:=fun e=>by have:=HOL.out.2;rw[e]at this;simp at this;omega
       have hown:=HP5.out.2.2.1;rw[HOL.out.2]at hown;obtain⟨gb,rfl,hgb,cg⟩:=own_val hown hg0 HOL.out.2;obtain⟨v,hv,hv64⟩:∃v:Nat,g.getD 0 0=v/\v<18446744073709551616:=by
        have:=HG.out _ (getD0_mem hne);exact⟨(g.getD 0 0).toNat,by omega,by omega⟩
       have hbro:=bro_any v u hv64 hu64;rw[flush_yes hne hb]at HS1;rw[hv]at cg hb;rw[hb]at hbro;have HBRO:=Hd hbro;have q6:decide (0<(gn:Int))=true:=decide_eq_true (by omega);have q6n:decide (0<gn)=true:=decide_eq_true (by omega);clear hbro hb hv hown hne
       go_wp2_with fail
       refine(HBRO.out _).mono ?_;rintro e w6 ⟨rfl,hb6⟩;have HP6:=Hd (HP5.out.later hb6);have HB6:=Hd (HB5.out.trans (hb6.mono HB5.out.size));clear hb6 cg HBRO HP5 HB5;have hown:=HP6.out.2.1;have hgw:=HP6.out.2.2.1;rw[HOL.out.1]at hown;rw[HOL.out.2]at hgw;obtain⟨v3,w7,hrun,hown7,hg7',hat7⟩:=append_words_at hown (words_own HOL.out.2.symm hgw) HOL.out.2 (own_none hgw) HB6.out.size (by omega);have HRUN7:=Hd hrun;obtain⟨oo1,oc1,rfl,-⟩:=own_form hown7;have hl7:(o++g).length=on+gn:=by rw[List.length_append,HOL.out.1,HOL.out.2]
       have hown7':w7.ownsRow w.heap.size 35 1 (.slice oo1 (on+gn) oc1) (o++g).length (uV (o++g)):=by rw[hl7];exact hown7
       have HPX:=Hd (HP6.out.out hown7' hg7' hat7).none;have HBX:=Hd (below_append HB6.out hown HB6.out.size hg7');have HXL:=Hd hl7;have HXR:Hid (Run R0 (o++g) ([]++[(u:Int)]) M'):=HS1.out (by simp);have hsumX:on+gn+0+(k+1)<=m:=by omega
       have hqX:=Nat.le_trans (show 8*(k+1)<=_ from Nat.le_add_right _ _) hq;clear hown hgw hrun hown7 hown7' hg7' hat7 hl7 HP6 HB6
       go_upto_region 14 with(fail)
       go_upto_region 16 with(at_builtin;refine wpList_append_want _ (by kernel_rfl) (.tmp 49) (.tmp 50) 22 22 rfl _ _ rfl rfl _ _ HRUN7.out ?_)
       obtain⟨wX,rfl⟩:∃wX,wX=w7:=⟨_,rfl⟩;clear HRUN7 HS1 HS7 HOL HG hsum hq
      all_goals
       have hown:=HPX.out.2.2.1;have hal:Below wX.heap.size wX (wX.alloc (.cells #[.int .u64 u] 35)):=br.alloc lr _;have HPA:=Hd (HPX.out.later hal);have HBA:=Hd (HBX.out.alloc HBX.out.size (.cells #[.int .u64 (u:Int)] 35));have hbs:w.heap.size<=(wX.alloc (.cells #[.int .u64 (u:Int)] 35)).heap.size:=HBA.out.size;have q7:((((0+1:Nat)):Int)==7)=false:=by decide
       clear hal
       go_wp2_with(at_builtin;refine wpList_append_own_at _ rfl (.tmp 52) (.tmp 54) 22 rfl w.heap.size 35 i0 (.int .u64 0) 1 8 Tryz.underlying22 hi hz0 hz1 hz2 rfl (by decide) _ 0 [] rfl (hown.alloc _) ⟨wX.heap.size,0,none⟩ 1 1 [.int .u64 u] rfl rfl (cells_new _ _ _ _ rfl) (by simp[Value.oneCell']) (by unfold maxLen;omega) (by omega) hbs ?_;intro v8 w8 hown8 hg8 _ hat8;have HX8:=Hd (And.intro hown8 (And.intro hg8 hat8));obtain⟨gg3,gc3,hv8,-⟩:=own_form hown8;clear hown8 hg8 hat8;subst hv8)
       obtain⟨hown8,hg8,hat8⟩:=HX8.out;have HP8:=Hd (HPA.out.grp (g':=[(u:Int)]) hown8 hg8 hat8);have HB8:=Hd (below_append HBA.out HPA.out.2.2.1 hbs hg8);have HGL:Hid (In64 [(u:Int)]):=fun v hv=>by rw[List.mem_singleton.1 hv];omega
       clear hown hown8 hg8 hat8 hbs HPA HBA HPX HBX hta HX8
       go_roundg (8*k+1)
       case measure=>omega
       case rel=>exact⟨_,[(u:Int)],M',_,1,k,_,gg3,_,gc3,rfl,rfl,by omega,by omega,by omega,HXL.out,rfl,HM'.out.1,HXR.out,HGL.out,HM'.out.2,HP8.out,HB8.out⟩
     ·
      have hne:g≠[]:=fun e=>by have:=HOL.out.2;rw[e]at this;simp at this;omega
      have hown:=HP5.out.2.2.1;rw[HOL.out.2]at hown;obtain⟨gb,rfl,hgb,cg⟩:=own_val hown hg0 HOL.out.2;obtain⟨v,hv,hv64⟩:∃v:Nat,g.getD 0 0=v/\v<18446744073709551616:=by
       have:=HG.out _ (getD0_mem hne);exact⟨(g.getD 0 0).toNat,by omega,by omega⟩
      have hbro:=bro_any v u hv64 hu64;rw[flush_no hb,HOL.out.2]at HS1 HS7;rw[hv]at cg hb;rw[hb]at hbro;have HBRO:=Hd hbro;have q6:decide (0<(gn:Int))=true:=decide_eq_true (by omega);have q6n:decide (0<gn)=true:=decide_eq_true (by omega);clear hbro hb hv hown hne
      go_wp2_with fail
      refine(HBRO.out _).mono ?_;rintro e w6 ⟨rfl,hb6⟩;have HP6:=Hd (HP5.out.later hb6);have HB6:=Hd (HB5.out.trans (hb6.mono HB5.out.size));clear hb6 cg HBRO HP5 HB5;have hown:=HP6.out.2.2.1;rw[HOL.out.2]at hown;have hal:Below w6.heap.size w6 (w6.alloc (.cells #[.int .u64 u] 35)):=br.alloc lr _;have HPA:=Hd (HP6.out.later hal);have HBA:=Hd (HB6.out.alloc HB6.out.size (.cells #[.int .u64 (u:Int)] 35));have hbs:w.heap.size<=(w6.alloc (.cells #[.int .u64 (u:Int)] 35)).heap.size:=HBA.out.size;have hownA:=hown.alloc (.cells #[.int .u64 (u:Int)] 35);clear hal;by_cases h7:gn+1=7
      ·have q7:(((gn+1:Nat):Int)==7)=true:=by rw[h7];rfl
       have q7':((gn:Int)+1==7)=true:=by rw[beq_iff_eq];omega
       go_wp2_with(at_builtin;refine wpList_append_own_at _ rfl (.tmp 52) (.tmp 54) 22 rfl w.heap.size 35 i0 (.int .u64 0) 1 8 Tryz.underlying22 hi hz0 hz1 hz2 rfl (by decide) _ gn (uV g) rfl hownA ⟨w6.heap.size,0,none⟩ 1 1 [.int .u64 u] rfl rfl (cells_new _ _ _ _ rfl) (by simp[Value.oneCell']) (by unfold maxLen;omega) (by omega) hbs ?_;intro v8 w8 hown8 hg8 _ hat8;have HX8:=Hd (And.intro hown8 (And.intro hg8 hat8));obtain⟨gg3,gc3,hv8,-⟩:=own_form hown8;clear hown8 hg8 hat8;subst hv8)
       obtain⟨hown8,hg8,hat8⟩:=HX8.out;have hl8:(g++[(u:Int)]).length=gn+1:=by rw[List.length_append,HOL.out.2];rfl
       have hown8':w8.ownsRow w.heap.size 35 1 (.slice gg3 (gn+1) gc3) (g++[(u:Int)]).length (uV (g++[(u:Int)])):=by rw[hl8,uV_snoc];exact hown8
       have HP8:=Hd (HPA.out.grp (g':=g++[(u:Int)]) hown8' hg8 hat8);have HB8:=Hd (below_append HBA.out hownA hbs hg8);have HL8:=Hd hl8;have HGL:Hid (In64 (g++[(u:Int)])):=fun v hv=>by
        rcases List.mem_append.1 hv with h|h
        ·exact HG.out v h
        ·rw[List.mem_singleton.1 h];omega
       clear hown hown8 hown8' hg8 hat8 hbs HPA HBA HP6 HB6 hta hl8 hownA;have HXR:Hid (Run R0 o [] (parI u::M')):=HS7.out h7;have hipar:=ipar_any u hu64;have hpi:parI (u:Int)=(parW u:Int):=by unfold parI;rw[Int.toNat_natCast]
       rw[hpi]at HXR;have hpw:=parW_lt u;obtain⟨pw,hpw2⟩:∃pw,parW u=pw:=⟨_,rfl⟩;obtain⟨pe,hpe⟩:∃pe,parE u=pe:=⟨_,rfl⟩;rw[hpw2]at hipar HXR hpw;rw[hpe]at hipar;have HIP:=Hd hipar;clear hipar hpi hpw2 hpe HS1 HS7 h7;refine(HIP.out _).mono ?_;rintro e w9 ⟨rfl,hb9⟩;have HP9:=Hd (HP8.out.later hb9);have HB9:=Hd (HB8.out.trans (hb9.mono HB8.out.size));clear hb9 HIP HP8 HB8;obtain⟨⟨ro2,rc2,hh2,-⟩,-⟩:=HP9.out;have HH2:=Hd hh2;have HPU:=Hd (hpush_any hh2 (pw:Int) ⟨by omega,by omega⟩ (by rw[HM'.out.1];omega));unfold ifc at HPU;clear hh2
       go_wp2_with fail
       refine HPU.out.mono ?_;intro e w10 hp;obtain⟨rfl,M2,hperm2,hpk2,hbp2⟩:=HP9.out.pushed HH2.out hp;have HM2:Hid (M2.length=k+1/\In64 M2):=⟨by have:=hperm2.length_eq;rw[List.length_cons,HM'.out.1]at this;exact this,fun v hv=>by
        rcases List.mem_cons.1 (hperm2.subset hv)with h|h
        ·rw[h];omega
        ·exact HM'.out.2 v h⟩
       have HX2:Hid (Run R0 o [] M2):=by
        obtain⟨r',s0,P,A,u',k1,k2,k3,k4,k5,k6,k7,k8,k9⟩:=HXR.out;exact⟨r',s0,P,A,u',k1,k2,k3,k4,k5,k6,k7,hperm2.trans k8,k9⟩
       have HP10:=Hd hpk2.none;have HB10:=Hd (HB9.out.trans hbp2);have hq8:=Nat.lt_of_lt_of_le (show 8*(k+1)<8*(k+1)+gn by omega) hq;clear hp hperm2 hpk2 hbp2 HPU HH2 HP9 HB9 HXR hq;go_wp2
       go_roundg (8*(k+1))
       case measure=>omega
       case rel=>exact⟨o,[],M2,on,0,k+1,oo,none,oc,0,rfl,rfl,by omega,by omega,by omega,HOL.out.1,rfl,HM2.out.1,HX2.out,fun v hv=>(by cases hv),HM2.out.2,HP10.out,HB10.out⟩
      ·have q7:(((gn+1:Nat):Int)==7)=false:=by rw[beq_eq_false_iff_ne];omega
       have q7':((gn:Int)+1==7)=false:=by rw[beq_eq_false_iff_ne];omega
       go_wp2_with(at_builtin;refine wpList_append_own_at _ rfl (.tmp 52) (.tmp 54) 22 rfl w.heap.size 35 i0 (.int .u64 0) 1 8 Tryz.underlying22 hi hz0 hz1 hz2 rfl (by decide) _ gn (uV g) rfl hownA ⟨w6.heap.size,0,none⟩ 1 1 [.int .u64 u] rfl rfl (cells_new _ _ _ _ rfl) (by simp[Value.oneCell']) (by unfold maxLen;omega) (by omega) hbs ?_;intro v8 w8 hown8 hg8 _ hat8;have HX8:=Hd (And.intro hown8 (And.intro hg8 hat8));obtain⟨gg3,gc3,hv8,-⟩:=own_form hown8;clear hown8 hg8 hat8;subst hv8)
       obtain⟨hown8,hg8,hat8⟩:=HX8.out;have hl8:(g++[(u:Int)]).length=gn+1:=by rw[List.length_append,HOL.out.2];rfl
       have hown8':w8.ownsRow w.heap.size 35 1 (.slice gg3 (gn+1) gc3) (g++[(u:Int)]).length (uV (g++[(u:Int)])):=by rw[hl8,uV_snoc];exact hown8
       have HP8:=Hd (HPA.out.grp (g':=g++[(u:Int)]) hown8' hg8 hat8);have HB8:=Hd (below_append HBA.out hownA hbs hg8);have HL8:=Hd hl8;have HGL:Hid (In64 (g++[(u:Int)])):=fun v hv=>by
        rcases List.mem_append.1 hv with h|h
        ·exact HG.out v h
        ·rw[List.mem_singleton.1 h];omega
       clear hown hown8 hown8' hg8 hat8 hbs HPA HBA HP6 HB6 hta hl8 hownA;have HXR:Hid (Run R0 o (g++[(u:Int)]) M'):=HS1.out h7;clear HS1 HS7;have h7':gn+1<7:=by omega
       clear h7
       go_roundg (8*k+(gn+1))
       case measure=>omega
       case rel=>exact⟨o,_,M',on,gn+1,k,oo,gg3,oc,gc3,rfl,rfl,by omega,by omega,by omega,HOL.out.1,HL8.out,HM'.out.1,HXR.out,HGL.out,HM'.out.2,HP8.out,HB8.out⟩
end
section
open Go.RowKit Go.Lib Wd
theorem sized_word{r:Nat}{v:Int}(h:∃z,okB r z=true/\v=(wordN r z:Int)):isW v.toNat=true/\rW v.toNat=r/\v=(wordN r (zW v.toNat):Int)/\okB r (zW v.toNat)=true:=by
 obtain⟨z,hz,rfl⟩:=h;obtain⟨a,b,c⟩:=word_cell hz;rw[Int.toNat_natCast];exact⟨a,b,by rw[c],by rw[c];exact hz⟩
theorem sized_all{r:Nat}{l:List Int}(h:Sized r l):allW l=true:=List.all_eq_true.2 fun v hv=>(sized_word (h v hv)).1
theorem sized_64{r:Nat}{l:List Int}(h:Sized r l):In64 l:=fun v hv=>by
 obtain⟨z,hz,rfl⟩:=h v hv;have:=(wordN_lt hz).1;omega
theorem sized_chk{r:Nat}:∀{l:List Int},Sized r l->chkF r l=0
 |[],_=>rfl
 |v::l,h=>by
  obtain⟨a,b,-⟩:=sized_word (h v List.mem_cons_self);unfold chkF;rw[if_pos a,if_pos (by omega)];exact sized_chk fun u hu=>h u (List.mem_cons_of_mem _ hu)
theorem sized_le{r:Nat}{l:List Int}(h:Sized r l)(h0:l≠[]):r<=12:=by
 obtain⟨z,hz,-⟩:=h _ (getD_mem (List.length_pos_iff.2 h0));exact(okB_parts hz).1
theorem sized_cmp{r:Nat}{l:List Int}(h:Sized r l)(hl:l.length<=20000):cmpE l=0/\(l≠[]->cmpL l=packF r l)/\(l=[]->cmpL l=[]):=by
 have hE:cmpE l=0:=by
  unfold cmpE;rw[if_neg (by omega)];by_cases h0:l=[]
  ·rw[if_pos h0]
  ·rw[if_neg h0]
   obtain⟨a,b,-⟩:=sized_word (h _ (getD_mem (List.length_pos_iff.2 h0)));unfold alkE;rw[if_pos (sized_all h),show resW (l.getD 0 0).toNat=(r:Int) by unfold resW;rw[if_pos a,b]];exact sized_chk h
 refine⟨hE,fun h0=>?_,fun h0=>?_⟩
 ·unfold cmpL
  rw[if_pos hE,(sized_word (h _ (getD_mem (List.length_pos_iff.2 h0)))).2.1]
 ·subst h0
  unfold cmpL packF;rw[if_pos hE];have e:∀r,packN r (setF [])=[]:=fun r=>by
   have es:setF ([]:List Int)=[]:=List.eq_nil_iff_forall_not_mem.2 fun x hx=>by have:=(setF_mem [] x).1 hx;cases this
   rw[es]
   induction r with
   |zero=>rfl
   |succ r ih=>show doneL []++packN r (nextL [])=[];rw[next_nil,ih];rfl
  rw[e];exact List.eq_nil_iff_forall_not_mem.2 fun x hx=>by have:=(setF_mem [] x).1 hx;cases this
theorem ds_mem:∀(d k:Nat) (z:E2),k+d<=12->okB k z=true->∀x:Int,x∈dsN d k z↔∃y,okB (k+d:Nat) y=true/\upN d y=z/\x=(wordN (k+d) y:Int)
 |0,k,z,_,hz,x=>by
  constructor
  ·intro hx
   have hx:x=(wordN k z:Int):=List.mem_singleton.1 hx;exact⟨z,hz,rfl,hx⟩
  ·rintro⟨y,hy,e,rfl⟩
   have e:y=z:=e;subst e;exact List.mem_singleton.2 rfl
 |d+1,k,z,hk,hz,x=>by
  show x∈(List.range 7).flatMap (fun i=>dsN d (k+1) (downE z i))↔_;rw[List.mem_flatMap];constructor
  ·rintro⟨i,hi,hx⟩
   have hi7:=List.mem_range.1 hi;obtain⟨y,hy,e,rfl⟩:=(ds_mem d (k+1) (downE z i) (by omega) (kid_ok hz (by omega) hi7) x).1 hx;refine⟨y,by rw[show k+(d+1)=k+1+d by omega];exact hy,?_,by rw[show k+(d+1)=k+1+d by omega]⟩;rw[upN_up,e,upE_down z hi7]
  ·rintro⟨y,hy,e,rfl⟩
   rw[upN_up]at e;refine⟨digE (upN d y),List.mem_range.2 (digE_lt _),?_⟩;have hdn:downE z (digE (upN d y))=upN d y:=by rw[<- e];exact down_up _
   have hy':okB (k+1+d:Nat) y=true:=by rw[show k+1+d=k+(d+1) by omega];exact hy
   rw[hdn];exact(ds_mem d (k+1) (upN d y) (by omega) (upN_ok d hy') _).2 ⟨y,hy',rfl,by rw[show k+(d+1)=k+1+d by omega]⟩
theorem ds_len:∀(d k:Nat) (z:E2),(dsN d k z).length=7 ^ d
 |0,_,_=>rfl
 |d+1,k,z=>by
  show((List.range 7).flatMap (fun i=>dsN d (k+1) (downE z i))).length=_;rw[List.length_flatMap,show List.range 7=[0,1,2,3,4,5,6]from rfl];simp only[List.map_cons,List.map_nil,List.sum_cons,List.sum_nil,ds_len d];rw[Nat.pow_succ];omega
theorem ds_apart(d:Nat):∀(k:Nat) {y z:E2},k+d<=12->okB k y=true->okB k z=true->wordN k y<wordN k z->∀a∈dsN d k y,∀b∈dsN d k z,a<b:=by
 induction d with
 |zero=>
  intro k y z _ _ _ h a ha b hb;have ha:a=(wordN k y:Int):=List.mem_singleton.1 ha;have hb:b=(wordN k z:Int):=List.mem_singleton.1 hb;rw[ha,hb];exact Int.ofNat_lt.2 h
 |succ d ih=>
  intro k y z hk hy hz h a ha b hb;obtain⟨i,hi,ha⟩:=List.mem_flatMap.1 (show a∈(List.range 7).flatMap (fun i=>dsN d (k+1) (downE y i))from ha);obtain⟨j,hj,hb⟩:=List.mem_flatMap.1 (show b∈(List.range 7).flatMap (fun i=>dsN d (k+1) (downE z i))from hb);have hi:=List.mem_range.1 hi;have hj:=List.mem_range.1 hj;exact ih (k+1) (by omega) (kid_ok hy (by omega) hi) (kid_ok hz (by omega) hj) (kids_apart (by omega) h hi hj) a ha b hb
theorem kid_less{k:Nat}(hk:k+1<=12)(z:E2){i j:Nat}(hij:i<j)(hj:j<7):wordN (k+1) (downE z i)<wordN (k+1) (downE z j):=by
 have h1:=word_kid (z:=z) hk (show i<7 by omega);have h2:=word_kid (z:=z) hk hj;have hu:0<(8:Nat) ^ (11-k):=Nat.pow_pos (by decide);have h3:(7-j)*8 ^ (11-k)+8 ^ (11-k)<=(7-i)*8 ^ (11-k):=by rw[<- Nat.succ_mul];exact Nat.mul_le_mul_right _ (by omega)
 omega
theorem ds_up:∀(d k:Nat) (z:E2),k+d<=12->okB k z=true->Up (dsN d k z)
 |0,_,_,_,_=>List.pairwise_singleton _ _
 |d+1,k,z,hk,hz=>by
  show Up ((List.range 7).flatMap (fun i=>dsN d (k+1) (downE z i)));refine List.pairwise_flatMap.2 ⟨fun i hi=>ds_up d (k+1) _ (by omega) (kid_ok hz (by omega) (List.mem_range.1 hi)),?_⟩;refine(List.pairwise_lt_range (n:=7)).imp_of_mem fun {i j} hi hj hij=>?_
  have hi:=List.mem_range.1 hi;have hj:=List.mem_range.1 hj;exact ds_apart d (k+1) (by omega) (kid_ok hz (by omega) hi) (kid_ok hz (by omega) hj) (kid_less (by omega) z hij hj)
theorem packN_nil:∀r,packN r []=[]
 |0=>rfl
 |r+1=>by show doneL []++packN r (nextL [])=[];rw[next_nil,packN_nil r];rfl
theorem upN_one(d:Nat)(y:E2):upN d (upE y)=upN (d+1) y:=by
 have:=upN_add d 1 y;rw[show 1+d=d+1 by omega]at this;exact this
theorem kids_ds{k:Nat}{z:E2}(hk:k+1<=12):kidsW k (wordN k z)=dsN 1 k z:=by
 show _=(List.range 7).flatMap (fun i=>dsN 0 (k+1) (downE z i));have e:∀i,dsN 0 (k+1) (downE z i)=[(wordN (k+1) (downE z i):Int)]:=fun _=>rfl
 simp only[e];unfold kidsW;rw[show List.range 7=[0,1,2,3,4,5,6]from rfl];have h:=fun i (hi:i<7)=>word_kid (z:=z) hk hi
 have h0:=h 0 (by omega);have h1:=h 1 (by omega);have h2:=h 2 (by omega);have h3:=h 3 (by omega);have h4:=h 4 (by omega);have h5:=h 5 (by omega);have h6:=h 6 (by omega);clear h;generalize(8:Nat) ^ (11-k)=u at *;simp only[List.map_cons,List.map_nil,List.flatMap_cons,List.flatMap_nil,List.append_nil,List.singleton_append,List.cons.injEq,and_true];omega
end
section
open Go.RowKit Go.Lib Go.Sort Wd
end
section
open Go.RowKit Go.Lib Wd
theorem sz_all{l:List Int}(h:∀k,k<l.length->isW (l.getD k 0).toNat=true):allW l=true:=by
 unfold allW;rw[List.all_eq_true];intro v hv;obtain⟨k,hk,rfl⟩:=List.getElem_of_mem hv;have:=h k hk
 rwa[List.getD_eq_getElem?_getD,List.getElem?_eq_getElem hk,Option.getD_some]at this
theorem sz_ok{l:List Int}{R:Nat}(ha:allW l=true)(hs:l.any (fun v=>decide ((R:Int)<(rW v.toNat:Int)))=false)(hR:R<=12)(h:sumS R l<=1099511627776):szE l R=0/\szN l R=(sumS R l:Int):=by
 have e:szE l R=0:=by
  unfold szE;rw[if_neg (by rw[ha];decide),if_neg (by rw[hs];decide),if_neg (by omega),Int.toNat_natCast,if_neg (by omega)]
 exact⟨e,by unfold szN;rw[e,if_pos rfl,Int.toNat_natCast]⟩
theorem kid_of{r:Nat}{y:E2}(hy:okB (r+1:Nat) y=true):(wordN (r+1) y:Int)∈kidsW r (wordN r (upE y)):=by
 have hr:r+1<=12:=(okB_parts hy).1;obtain⟨-,p,hp,e,hk⟩:=word_parts (r:=r) ⟨y,hy,rfl⟩;obtain⟨d,hd,e2⟩:=(kidsW_mem hr _).1 hk;have e3:y=downE p d:=(word_inj hy (kid_ok hp hr hd) (by omega)).2;rw[e3,upE_down p hd, <-e3];exact hk
theorem pack_cov:∀(r:Nat) (A:List Int),Sized r A->∀y,okB r y=true->((∃ k,k<=r/\(wordN k (upN (r-k) y):Int)∈packN r A)↔(wordN r y:Int)∈A)
 |0,A,_,y,hy=>by
  constructor
  ·rintro⟨k,hk,hm⟩
   obtain rfl:k=0:=by omega
   exact hm
  ·intro h;exact⟨0,lr,h⟩
 |r+1,A,hs,y,hy=>by
  have hr:r+1<=12:=(okB_parts hy).1;have hu:=up_ok hy;have hn:=next_sized hs;have ih:=pack_cov r (nextL A) hn (upE y) hu;have hkid:=kid_of hy;have hfull:fullB A (wordN (r+1) y:Int)=true↔(wordN r (upE y):Int)∈nextL A:=by
   rw[full_iff hr hu hkid,next_mem hr hs];constructor
   ·intro h;exact⟨_,hu,rfl,h⟩
   ·rintro⟨p,hp,e,h⟩
    have e3:upE y=p:=(word_inj hu hp (by omega)).2;rw[e3];exact h
  show(∃ k,k<=r+1/\_∈doneL A++packN r (nextL A))↔_;constructor
  ·rintro⟨k,hk,hm⟩
   rcases List.mem_append.1 hm with h1|h1
   ·have h2:=(List.mem_filter.1 h1).1
    have ho:okB k (upN (r+1-k) y)=true:=upN_ok _ (by rw[show k+(r+1-k)=r+1 by omega];exact hy);obtain rfl:k=r+1:=sized_unlike ⟨_,ho,rfl⟩ (hs _ h2);rw[Nat.sub_self]at h2;exact h2
   ·have ho:okB k (upN (r+1-k) y)=true:=upN_ok _ (by rw[show k+(r+1-k)=r+1 by omega];exact hy)
    obtain⟨k',hk',hz⟩:=packN_sized r _ hn _ h1;obtain rfl:k=k':=sized_unlike ⟨_,ho,rfl⟩ hz;rw[show r+1-k=(r-k)+1 by omega, <-upN_one]at h1;have h2:=hfull.2 (ih.1 ⟨k,hk',h1⟩);exact(full_iff hr hu hkid).1 h2 _ hkid
  ·intro hA
   by_cases hf:fullB A (wordN (r+1) y:Int)=true
   ·obtain⟨k,hk,h1⟩:=ih.2 (hfull.1 hf)
    refine⟨k,by omega,List.mem_append.2 (.inr ?_)⟩;rw[show r+1-k=(r-k)+1 by omega, <-upN_one];exact h1
   ·refine⟨r+1,lr,List.mem_append.2 (.inl (List.mem_filter.2 ⟨?_,?_⟩))⟩
    ·rw[Nat.sub_self];exact hA
    ·rw[Nat.sub_self]
     show(!fullB A (wordN (r+1) y:Int))=true;rw[Bool.eq_false_iff.2 hf];rfl
theorem base_anc{A:List Int}(hs:Sized 0 A){k:Nat}{x:E2}{j:Nat}(hx:okB k x=true)(hj:j<k)(h1:(wordN k x:Int)∈A):False:=by
 have h2:k=0:=sized_unlike ⟨x,hx,rfl⟩ (hs _ h1);omega
theorem pack_anc(r:Nat):∀(A:List Int),Sized r A->∀(k:Nat) (x:E2) (j:Nat),okB k x=true->j<k->(wordN k x:Int)∈packN r A->(wordN j (upN (k-j) x):Int)∈packN r A->False:=by
 induction r with
 |zero=>
  intro A hs k x j hx hj h1 _;exact base_anc hs hx hj h1
 |succ r ih=>
  intro A hs k x j hx hj h1 h2;have hn:=next_sized hs;have hk12:=(okB_parts hx).1;have hoj:okB j (upN (k-j) x)=true:=upN_ok _ (by rw[show j+(k-j)=k by omega];exact hx);rcases List.mem_append.1 h1 with h3|h3
  ·have h4:=List.mem_filter.1 h3
   obtain rfl:k=r+1:=sized_unlike ⟨_,hx,rfl⟩ (hs _ h4.1);rcases List.mem_append.1 h2 with h5|h5
   ·have:=sized_unlike ⟨_,hoj,rfl⟩ (hs _ (List.mem_filter.1 h5).1)
    omega
   ·have hu:=up_ok hx
    rw[show r+1-j=(r-j)+1 by omega, <-upN_one]at h5;have h6:=(pack_cov r (nextL A) hn (upE x) hu).1 ⟨j,by omega,h5⟩;obtain⟨p,hp,e,h7⟩:=(next_mem hk12 hs _).1 h6;have e3:upE x=p:=(word_inj hu hp (by omega)).2;have h8:=(full_iff hk12 hu (kid_of hx)).2 (by rw[e3];exact h7);rw[h8]at h4;exact absurd h4.2 (by simp)
  ·obtain⟨k',hk',hz⟩:=packN_sized r _ hn _ h3
   obtain rfl:k=k':=sized_unlike ⟨_,hx,rfl⟩ hz;rcases List.mem_append.1 h2 with h5|h5
   ·have:=sized_unlike ⟨_,hoj,rfl⟩ (hs _ (List.mem_filter.1 h5).1)
    omega
   ·exact ih (nextL A) hn k x j hx hj h3 h5
theorem dsV_word'{R k:Nat}{z:E2}(hz:okB k z=true):dsV R (wordN k z:Int)=dsN (R-k) k z:=by
 obtain⟨a,b,c⟩:=word_cell hz;unfold dsV;rw[Int.toNat_natCast,b,c]
theorem cmp_pack{R:Nat}{l:List Int}(hs:Sized R l)(hl:l.length<=20000):cmpE l=0/\cmpL l=packF R l:=by
 obtain⟨g1,g2,g3⟩:=sized_cmp hs hl;refine⟨g1,?_⟩;by_cases h:l=[]
 ·rw[g3 h,h]
  unfold packF;rw[setF_nil,packN_nil,setF_nil]
 ·exact g2 h
theorem pk_sized{R:Nat}{l:List Int}(hs:Sized R l){v:Int}(hv:v∈packF R l):∃k:Nat,k<=R/\∃z,okB k z=true/\v=(wordN k z:Int):=
 packN_sized R (setF l) (sized_set hs) v ((setF_mem _ _).1 hv)
theorem pk_cov{R:Nat}{l:List Int}(hs:Sized R l){y:E2}(hy:okB R y=true):(∃ v∈packF R l,(wordN R y:Int)∈dsV R v)↔(wordN R y:Int)∈l:=by
 have hR:=(okB_parts hy).1;rw[<- setF_mem l, <-pack_cov R (setF l) (sized_set hs) y hy];constructor
 ·rintro⟨v,hv,hm⟩
  obtain⟨k,hk,x,hx,rfl⟩:=pk_sized hs hv;rw[dsV_word' hx]at hm;obtain⟨y',hy',hu,e⟩:=(ds_mem (R-k) k x (by omega) hx _).1 hm;have e3:y=y':=(word_inj hy hy' (by rw[show k+(R-k)=R by omega]at e ⊢;omega)).2;rw[<- e3]at hu;refine⟨k,hk,?_⟩;rw[hu];exact(setF_mem _ _).1 hv
 ·rintro⟨k,hk,hm⟩
  have ho:okB k (upN (R-k) y)=true:=upN_ok _ (by rw[show k+(R-k)=R by omega];exact hy);refine⟨_,(setF_mem _ _).2 hm,?_⟩;rw[dsV_word' ho];refine(ds_mem (R-k) k _ (by omega) ho _).2 ⟨y,by rw[show k+(R-k)=R by omega];exact hy,rfl,by rw[show k+(R-k)=R by omega]⟩
theorem pk_apart{R:Nat}{l:List Int}(hs:Sized R l)(hR:R<=12){v u:Int}(hv:v∈packF R l)(hu:u∈packF R l)(hne:v≠u){t:Int}(h1:t∈dsV R v)(h2:t∈dsV R u):False:=by
 obtain⟨k,hk,x,hx,rfl⟩:=pk_sized hs hv;obtain⟨j,hj,y,hy,rfl⟩:=pk_sized hs hu;rw[dsV_word' hx]at h1;rw[dsV_word' hy]at h2;obtain⟨a,ha,ea,e1⟩:=(ds_mem (R-k) k x (by omega) hx _).1 h1;obtain⟨b,hb,eb,e2⟩:=(ds_mem (R-j) j y (by omega) hy _).1 h2;rw[show k+(R-k)=R by omega]at ha e1;rw[show j+(R-j)=R by omega]at hb e2;have e3:a=b:=(word_inj ha hb (by omega)).2;rw[<- e3]at eb;have key:∀(p q:Nat) (s t:E2),p<q->q<=R->okB q t=true->upN (R-p) a=s->upN (R-q) a=t->(wordN p s:Int)∈packF R l->(wordN q t:Int)∈packF R l->False:=fun p q s t hpq hqR ht es et m1 m2=>by
  refine pack_anc R (setF l) (sized_set hs) q t p ht hpq ((setF_mem _ _).1 m2) ?_;rw[<- et,upN_add,show(R-q)+(q-p)=R-p by omega,es];exact(setF_mem _ _).1 m1
 rcases Nat.lt_trichotomy k j with h|h|h
 ·exact key k j x y h hj hy ea eb hv hu
 ·subst h
  exact hne (by rw[<- ea, <-eb])
 ·exact key j k y x h hk hx eb ea hu hv
theorem flat_len(R:Nat):∀l:List Int,(l.flatMap (dsV R)).length=sumS R l
 |[]=>rfl
 |v::l=>by
  rw[List.flatMap_cons,List.length_append,flat_len R l];unfold dsV;rw[ds_len];rfl
theorem len_perm{a b:List Int}(ha:a.Nodup)(hb:b.Nodup)(h:∀x,x∈a↔x∈b):a.length=b.length:=by
 refine List.Perm.length_eq (List.perm_iff_count.2 fun x=>?_);rw[ha.count,hb.count];simp only[h]
theorem pk_mem{R:Nat}{l:List Int}(hs:Sized R l)(hR:R<=12)(t:Int):t∈(packF R l).flatMap (dsV R)↔t∈l:=by
 rw[List.mem_flatMap];constructor
 ·rintro⟨v,hv,ht⟩
  obtain⟨k,hk,x,hx,rfl⟩:=pk_sized hs hv;have ht2:=ht;rw[dsV_word' hx]at ht2;obtain⟨a,ha,-,e1⟩:=(ds_mem (R-k) k x (by omega) hx _).1 ht2;rw[show k+(R-k)=R by omega]at ha e1;subst e1;exact(pk_cov hs ha).1 ⟨_,hv,ht⟩
 ·intro ht
  obtain⟨y,hy,rfl⟩:=hs t ht;exact(pk_cov hs hy).2 ht
theorem pk_sum{R:Nat}{l:List Int}(hs:Sized R l)(hR:R<=12):sumS R (packF R l)=(setF l).length:=by
 rw[<- flat_len];refine len_perm ?_ (setF_up l).nodup fun t=>by rw[pk_mem hs hR,setF_mem]
 refine List.nodup_iff_pairwise_ne.2 (List.pairwise_flatMap.2 ⟨fun v hv=>?_,?_⟩)
 ·obtain⟨k,hk,x,hx,rfl⟩:=pk_sized hs hv
  rw[dsV_word' hx];exact List.nodup_iff_pairwise_ne.1 (ds_up (R-k) k x (by omega) hx).nodup
 ·refine(List.nodup_iff_pairwise_ne.1 (setF_up (packN R (setF l))).nodup).imp_of_mem fun {a b} ha hb hab x hx y hy e=>?_
  subst e;exact pk_apart hs hR ha hb hab hx hy
theorem pk_sz{R:Nat}{m:List Int}(hR:R<=12)(hv:∀v∈m,∃k:Nat,k<=R/\∃z,okB k z=true/\v=(wordN k z:Int))(hs:sumS R m<=20000):szE m R=0/\szN m R=(sumS R m:Int)/\sprE m R=0/\sprL m R=setF (m.flatMap (dsV R)):=by
 have ha:allW m=true:=List.all_eq_true.2 fun v h=>by
  obtain⟨k,-,z,hz,rfl⟩:=hv v h;exact(word_cell hz).1
 have hb:m.any (fun v=>decide ((R:Int)<(rW v.toNat:Int)))=false:=by
  rw[List.any_eq_false];intro v h;obtain⟨k,hk,z,hz,rfl⟩:=hv v h;rw[Int.toNat_natCast,(word_cell hz).2.1,decide_eq_true_eq];omega
 obtain⟨e1,e2⟩:=sz_ok ha hb hR (by omega);have e3:sprE m R=0:=by unfold sprE;rw[e1,if_pos rfl,Int.toNat_natCast,if_neg (by omega)]
 exact⟨e1,e2,e3,by unfold sprL;rw[e3,if_pos rfl,Int.toNat_natCast]⟩
theorem pk_spread{R:Nat}{l:List Int}(hs:Sized R l)(hR:R<=12)(hl:l.length<=20000):szE (packF R l) R=0/\szN (packF R l) R=((setF l).length:Int)/\sprE (packF R l) R=0/\sprL (packF R l) R=setF l:=by
 have h1:=setF_length l;obtain⟨e1,e2,e3,e4⟩:=pk_sz hR (fun v hv=>pk_sized hs hv) (by rw[pk_sum hs hR];omega);rw[pk_sum hs hR]at e2;refine⟨e1,e2,e3,?_⟩;rw[e4];exact(setF_up _).ext (setF_up _) fun t=>by rw[setF_mem,setF_mem,pk_mem hs hR]
theorem pk_64{R:Nat}{l:List Int}(hs:Sized R l):In64 (packF R l):=fun v hv=>by
 obtain⟨k,hk,z,hz,rfl⟩:=pk_sized hs hv;have:=(wordN_lt hz).1;exact⟨by omega,by omega⟩
theorem pk_len{R:Nat}{l:List Int}(hs:Sized R l)(hR:R<=12)(hl:l.length<=20000):(packF R l).length<=20000:=by
 have h1:=pk_sum hs hR;have h2:=setF_length l;have h3:∀(R:Nat) (m:List Int),m.length<=sumS R m:=fun R m=>by
  induction m with
  |nil=>exact lr
  |cons v m ih=>
   show m.length+1<=7 ^ (R-rW v.toNat)+sumS R m;have:0<7 ^ (R-rW v.toNat):=Nat.pow_pos (by decide);omega
 have:=h3 R (packF R l);omega
end
section
open Go.RowKit Go.Lib Wd Cv
def nbL(x:Int):List Int:=rgsL x.toNat 1 1 1
def bordB(L:List Int)(x:Int):Bool:=decide ((nbL x).length<6)||(nbL x).any fun n=> !hasF L n
def bordL(L:List Int):List Int:=L.filter (bordB L)
theorem fil_sized{R:Nat}{ls:List (List (Int×Int))}{L:List Int}(h:IsFil R ls L):Sized R L:=fun x hx=>by
 obtain⟨z,h1,_,_,e⟩:=(h.2.1 x).1 hx;exact⟨z,h1,e⟩
theorem nb_len{R:Nat}{L:List Int}(h:Sized R L){x:Int}(hx:x∈L):(nbL x).length<=6:=by
 obtain⟨z,hz,rfl⟩:=h x hx;unfold nbL;rw[Int.toNat_natCast];exact(nb_mem hz).2.2
theorem fil_pack{R:Nat}(hR:R<=12){ls:List (List (Int×Int))}{L:List Int}(h:IsFil R ls L):cmpE L=0/\sprE (cmpL L) R=0/\sprL (cmpL L) R=L/\(cmpL L).length<=20000/\In64 (cmpL L):=by
 have hs:=fil_sized h;obtain⟨h1,h2⟩:=cmp_pack hs h.2.2;obtain⟨_,_,h3,h4⟩:=pk_spread hs hR h.2.2;rw[h2];exact⟨h1,h3,h4.trans (setF_up_eq h.1),pk_len hs hR h.2.2,pk_64 hs⟩
end
section
open Go.RowKit Go.Lib Go.Sort Wd Cv
def BadF(w:World)(err:Int)(e:Ending)(w':World):Prop:=e=.returned (.tuple #[.slice none 0 0,.int .i64 err])/\Below w.heap.size w w'
def GoodF(w:World)(R:Nat)(ls:List (List (Int×Int)))(f:List Int->List Int)(e:Ending)(w':World):Prop:=
 ∃L lo lc ln,IsFil R ls L/\e=.returned (.tuple #[.slice lo ln lc,.int .i64 0])/\LAt w' lo ln lc (f L)/\Below w.heap.size w w'
theorem border_bad{v1 v2:Value}{err:Int}(h0:err≠0){w:World}(hF:Calls Tryz.prog 8 #[v1,v2] w (BadF w err)):Calls Tryz.prog 21 #[v1,v2] w (BadF w err):=by
 have HF:=Hd hF;have q:(err != 0)=true:=by simpa using h0
 clear hF
 go_enter Tryz.func21,Tryz.ntmps21
 go_wp2_with fail
 refine HF.out.mono ?_;rintro e w1 ⟨rfl,hb1⟩;have HB1:=Hd (hb1.alloc hb1.size (.cells #[.slice none 0 0] 22));clear hb1;go_wp2;go_ret2;exact⟨rfl,HB1.out⟩
theorem packed_bad{v1 v2:Value}{err:Int}(h0:err≠0){w:World}(hF:Calls Tryz.prog 8 #[v1,v2] w (BadF w err)):Calls Tryz.prog 22 #[v1,v2] w (BadF w err):=by
 have HF:=Hd hF;have q:(err != 0)=true:=by simpa using h0
 clear hF
 go_enter Tryz.func22,Tryz.ntmps22
 go_wp2_with fail
 refine HF.out.mono ?_;rintro e w1 ⟨rfl,hb1⟩;have HB1:=Hd hb1;clear hb1;go_wp2;go_ret2;exact⟨rfl,HB1.out⟩
theorem packed_good{v1 v2:Value}{R:Nat}{ls:List (List (Int×Int))}{w:World}(hF:Calls Tryz.prog 8 #[v1,v2] w (GoodF w R ls id)):Calls Tryz.prog 22 #[v1,v2] w (GoodF w R ls cmpL):=by
 have HF:=Hd hF;clear hF
 go_enter Tryz.func22,Tryz.ntmps22
 go_wp2_with fail
 refine HF.out.mono ?_;rintro e w1 ⟨L,lo,lc,ln,hL,rfl,hA,hb1⟩;have hs:=fil_sized hL;have hce:cmpE L=0:=(cmp_pack hs hL.2.2).1;have hc:=compact_any lo lc L w1 w1.heap.size hA.2.1 lr (by have:=hL.2.2;omega) (sized_64 hs);have hln:L.length=ln:=hA.1.symm;rw[hce,hln]at hc;have HC:=Hd hc;have HL:=Hd hL;have HB1:=Hd hb1;clear hs hce hc hln hA hL hb1
 go_wp2_with fail
 refine HC.out.mono ?_;rintro e w2 ⟨ao,c,rfl,ho,hb2⟩;have HK:=Hd (LAt.of_own rfl ho);have HB2:=Hd (HB1.out.trans (hb2.mono HB1.out.size));clear ho hb2;go_wp2;go_ret2;exact⟨L,ao,c,_,HL.out,rfl,HK.out,HB2.out⟩
theorem border_good{v1 v2:Value}{R:Nat}{ls:List (List (Int×Int))}{w:World}(hF:Calls Tryz.prog 8 #[v1,v2] w (GoodF w R ls id)):Calls Tryz.prog 21 #[v1,v2] w (GoodF w R ls bordL):=by
 obtain⟨i0,hi,hz0,hz1,hz2⟩:=info_parts info_u;have HF:=Hd hF;clear hF
 go_enter Tryz.func21,Tryz.ntmps21
 go_wp2_with fail
 refine HF.out.mono ?_;rintro e w1 ⟨L,lo,lc,ln,hL,rfl,hA,hb1⟩;obtain⟨w2,hw2⟩:∃W,w1.alloc (.cells #[.slice lo ln lc] 22)=W:=⟨_,rfl⟩;obtain⟨w3,hw3⟩:∃W,w2.alloc (.cells #[.func (.func 43) #[] #[.pointer (some ⟨w1.heap.size,0,none⟩)]] 62)=W:=⟨_,rfl⟩;have hb2:Below w1.heap.size w1 w2:=by rw[<- hw2];exact br.alloc lr _
 have hb3:Below w2.heap.size w2 w3:=by rw[<- hw3];exact br.alloc lr _
 have z0:w2.heap[w1.heap.size]? =some (.cells #[.slice lo ln lc] 22 (0,0)):=by rw[<- hw2];exact heap_new _ _ _ rfl
 have z1:w3.heap[w2.heap.size]? =some (.cells #[.func (.func 43) #[] #[.pointer (some ⟨w1.heap.size,0,none⟩)]] 62 (0,0)):=by rw[<- hw3];exact heap_new _ _ _ rfl
 have g0:=(Array.getElem?_eq_some_iff.1 z0).1;have g1:=(Array.getElem?_eq_some_iff.1 z1).1;have l0:w2.cell? ⟨w1.heap.size,0,none⟩=some (.slice lo ln lc):=cell_of_row _ _ 0 _ _ _ z0;have l1:w3.cell? ⟨w2.heap.size,0,none⟩=some (.func (.func 43) #[] #[.pointer (some ⟨w1.heap.size,0,none⟩)]):=cell_of_row _ _ 0 _ _ _ z1;have l2:w3.cell? ⟨w1.heap.size,0,none⟩=some (.slice lo ln lc):=(hb3.cell (p:=⟨w1.heap.size,0,none⟩) g0).trans l0;have HW2:=Hd hw2;have HW3:=Hd hw3;have HB3:=Hd (hb1.trans ((hb2.trans (hb3.mono hb2.size)).mono hb1.size));have HA:Hid (LAt w3 lo ln lc L):=LAt.later (LAt.later hA hb2) hb3;have HL:=Hd hL;have hln:ln<=20000:=by have h1:ln=L.length:=hA.1;have:=hL.2.2;omega
 have hg2:w1.heap.size<w3.heap.size:=Nat.lt_of_lt_of_le g0 hb3.size;clear hw2 hw3 hb1 hb2 hb3 z0 z1 hA hL l0 g0
 as_aux_lemma=>
  go_upto_region 7 with(first|rw[HW2.out]|rw[HW3.out])
  as_aux_lemma=>
   go_loopw [9,26] (fun ov iv wr=>∃(k m:Nat),k<=ln/\m<=k/\iv=.int .i64 k/\Hid (((L.take k).filter (bordB L)).length=m)/\wr.ownsRow w3.heap.size 35 1 ov m (uV ((L.take k).filter (bordB L)))/\Below w3.heap.size w3 wr) (fun _ iv _=>ln-(intOf iv).toNat)
   case atStart=>exact⟨0,0,Nat.zero_le _,lr,rfl,rfl,World.ownsRow_nil _ _ _ _,br⟩
   case round=>
    obtain⟨k,m,hk,hmk,rfl,HM,hown,hbel⟩:=hrel;have HLEN:Hid (ln=L.length):=HA.out.1;obtain⟨oo,oc,rfl,_,_⟩:=own_form hown;have hsz:=hbel.size;by_cases hlt:k<ln
    ·have hkl:k<L.length:=by rw[<- HLEN.out];exact hlt
     have hkm:L.getD k 0∈L:=by rw[List.getD_eq_getElem?_getD,List.getElem?_eq_getElem hkl];exact List.getElem_mem hkl
     have HKY:=HA.out.later hbel;obtain⟨gb,off,rfl,hgb,hcc⟩:=HKY.2.1 (by rw[<- HLEN.out];omega);have c0:=hcc k hkl;obtain⟨z,hz,hx⟩:=fil_sized HL.out _ hkm;have hw64:=(wordN_lt hz).1;have h6:=nb_len (fil_sized HL.out) hkm;rw[hx]at h6;unfold nbL at h6;rw[Int.toNat_natCast]at h6;have HT:Hid ((L.take (k+1)).filter (bordB L)=(L.take k).filter (bordB L)++if bordB L (L.getD k 0)then [L.getD k 0]else []):=by
      show _=_;rw[List.take_succ_eq_append_getElem hkl,List.filter_append,List.getD_eq_getElem?_getD,List.getElem?_eq_getElem hkl,Option.getD_some];congr 1;cases h:bordB L L[k] <;> simp[h]
     have HBQ:Hid (bordB L (L.getD k 0)=(decide ((rgsL (wordN R z) 1 1 1).length<6)||(rgsL (wordN R z) 1 1 1).any fun n=> !hasF L n)):=by
      show _=_;unfold bordB nbL;rw[hx,Int.toNat_natCast]
     rw[hx]at c0 HT HBQ;generalize wordN R z=wd at *;have HN:=Hd (nei_any wd (by omega) wr);have hki:(k:Int)<(ln:Int):=by omega
     clear hkl hkm HKY hcc hz hx hw64;generalize rgsL wd 1 1 1=nb at *;generalize rgsE wd 1 1=ne at *;obtain⟨Fn,hFn⟩:∃q,(L.take (k+1)).filter (bordB L)=q:=⟨_,rfl⟩;rw[hFn]at HT;have HFE:=Hd hFn;clear hFn;generalize(L.take k).filter (bordB L)=Fo at*
     as_aux_lemma=>
      go_wp2_with fail
      refine HN.out.mono ?_;rintro e w4 ⟨no,nc,rfl,hno,hb4⟩;have HB4:=Hd (hbel.trans (hb4.mono hsz));have hown4:=own_later hown hb4;have hsz4:=HB4.out.size;have hask:AskU 47 #[.pointer (some ⟨w2.heap.size,0,none⟩)] (fun n=> !hasF L n) w4 w4.heap.size nb:=fun W x hW _=>by
       have hW2:Below w3.heap.size w3 W:=⟨hW.1.trans HB4.out.os,hW.2.1.trans HB4.out.tape,hW.2.2.1.trans HB4.out.output,Nat.le_trans hsz4 hW.2.2.2.1,fun q hq=>(hW.2.2.2.2 q (Nat.lt_of_lt_of_le hq hsz4) (fun e=>by omega)).trans (HB4.out.block q hq)⟩;exact bdask_any x ((hW2.cell (p:=⟨w1.heap.size,0,none⟩) hg2).trans l2) ((hW2.cell (p:=⟨w2.heap.size,0,none⟩) g1).trans l1) (HA.out.later hW2) HL.out.1.rising (by omega)
      obtain⟨nn,hnn⟩:∃nn,nb.length=nn:=⟨_,rfl⟩;have HCO:Hid (nn<=1000000->Calls Tryz.prog 46 #[.slice no nn nc,.func (.func 47) #[] #[.pointer (some ⟨w2.heap.size,0,none⟩)]] w4 fun e w'=>e=.returned (.bool (nb.any fun n=> !hasF L n))/\Below w4.heap.size w4 w'):=fun hle=>bdcontains_any _ _ no nn nc nb w4 w4.heap.size hnn hle hno hask
      rw[hnn]at HBQ h6;rw[hnn];clear hno hb4 hask hown HN c0 hnn;generalize(nb.any fun n=> !hasF L n)=anyb at *;have hmk1:m<=20000:=by omega
      clear hsz
      as_aux_lemma=>
       by_cases h66:nn<6
       ·have q6:decide ((nn:Int)<6)=true:=decide_eq_true (by omega)
        have HBT:Hid (bordB L (wd:Int)=true):=by
         show _=_;rw[HBQ.out,decide_eq_true h66];rfl
        clear HBQ h66 HCO;have HFN:Hid (uV Fn=uV Fo++[.int .u64 (wd:Int)]/\Fn.length=m+1):=by
         have h:=HT.out;rw[HBT.out,if_pos rfl]at h;rw[h];exact⟨uV_snoc _ _,by rw[List.length_append,HM.out];rfl⟩
        clear HT HM
        go_wp2_with(at_builtin;refine wpList_append_own _ rfl (.tmp 43) (.tmp 45) 22 rfl w3.heap.size 35 i0 (.int .u64 0) 1 8 Tryz.underlying22 hi hz0 hz1 hz2 rfl (by decide) _ _ _ rfl (hown4.alloc _) ⟨w4.heap.size,0,none⟩ 1 1 [.int .u64 wd] rfl rfl (cells_new _ _ _ _ rfl) (by simp[Value.oneCell']) (by unfold maxLen;omega) (by omega) (by simp;omega) ?_;intro v' w9 hown1 hgrow _)
        go_roundw
        case rel=>exact⟨k+1,m+1,by omega,by omega,by go_num,by rw[HFE.out];exact HFN.out.2,by rw[HFE.out,HFN.out.1];exact hown1,below_append (HB4.out.alloc (by omega) _) (hown4.alloc _) (by simp;omega) hgrow⟩
        case measure=>simp[intOf];omega
       ·have q6:decide ((nn:Int)<6)=false:=decide_eq_false (by omega)
        have HBT:Hid (bordB L (wd:Int)=anyb):=by
         show _=_;rw[HBQ.out,decide_eq_false h66];rfl
        have HCA:=Hd (HCO.out (by omega));clear HBQ h66 HCO h6;cases anyb with
        |true=>
         have HFN:Hid (uV Fn=uV Fo++[.int .u64 (wd:Int)]/\Fn.length=m+1):=by
          have h:=HT.out;rw[HBT.out,if_pos rfl]at h;rw[h];exact⟨uV_snoc _ _,by rw[List.length_append,HM.out];rfl⟩
         clear HT HM
         go_wp2_with(first|(go_at_call 46;refine HCA.out.mono ?_;rintro e w5 ⟨rfl,hb5⟩;have HB5:=Hd (HB4.out.trans (hb5.mono hsz4));have hown5:=own_later hown4 hb5;have hsz5:=HB5.out.size;clear hb5 hown4 HB4)|(at_builtin;refine wpList_append_own _ rfl (.tmp 43) (.tmp 45) 22 rfl w3.heap.size 35 i0 (.int .u64 0) 1 8 Tryz.underlying22 hi hz0 hz1 hz2 rfl (by decide) _ _ _ rfl (hown5.alloc _) ⟨w5.heap.size,0,none⟩ 1 1 [.int .u64 wd] rfl rfl (cells_new _ _ _ _ rfl) (by simp[Value.oneCell']) (by unfold maxLen;omega) (by omega) (by simp;omega) ?_;intro v' w9 hown1 hgrow _))
         go_roundw
         case rel=>exact⟨k+1,m+1,by omega,by omega,by go_num,by rw[HFE.out];exact HFN.out.2,by rw[HFE.out,HFN.out.1];exact hown1,below_append (HB5.out.alloc (by omega) _) (hown5.alloc _) (by simp;omega) hgrow⟩
         case measure=>simp[intOf];omega
        |false=>
         have HFN:Hid (Fn=Fo):=by
          have h:=HT.out;rw[HBT.out,if_neg (by simp),List.append_nil]at h;exact h
         clear HT
         go_wp2_with(go_at_call 46;refine HCA.out.mono ?_;rintro e w5 ⟨rfl,hb5⟩;have HB5:=Hd (HB4.out.trans (hb5.mono hsz4));have hown5:=own_later hown4 hb5;clear hb5)
         go_roundw
         case rel=>exact⟨k+1,m,by omega,by omega,by go_num,by rw[HFE.out,HFN.out];exact HM.out,by rw[HFE.out,HFN.out];exact hown5,HB5.out⟩
         case measure=>simp[intOf];omega
    ·have hkn:ln=k:=by omega
     subst hkn;have htk:L.take ln=L:=List.take_of_length_le (by rw[HLEN.out];exact lr);rw[htk]at hown HM;have HK:=Hd (LAt.of_own HM.out.symm hown);have HBF:=Hd (HB3.out.trans (hbel.mono HB3.out.size));have hki:¬(ln:Int)<(ln:Int):=by omega
     clear hown htk hbel HM;go_wp2;go_ret2;exact⟨L,oo,oc,m,HL.out,rfl,HK.out,HBF.out⟩
end
section
open Go.RowKit Go.Lib Wd Cv
theorem fill_chk{ao:Option Addr}{n c B:Nat}{ls:List (List (Int×Int))}(r:Int){w:World}(hB:B<=w.heap.size)(h:Po.RingsAt w B ao ls)(hl:ls.length=n)(hn:n<=25)(ht:Po.totTo ls ls.length<=1000000000000000)(hz:Po.checkF ls≠0):
  Calls Tryz.prog 8 #[.slice ao n c,.int .i64 r] w (BadF w (Po.checkF ls)):=by
 have hch:=Po.check_big ao c ls w B hB h (by omega) ht;rw[hl]at hch;generalize Po.checkF ls=z at *;have HCH:=Hd hch;have q:(z != 0)=true:=by simpa using hz
 clear hch h hB hz ht
 go_enter Tryz.func8,Tryz.ntmps8
 go_wp2_with fail
 refine HCH.out.mono ?_;rintro e w1 ⟨rfl,hb1⟩;have HB1:=Hd hb1;clear hb1 HCH;go_wp2;go_ret2;exact⟨rfl,HB1.out⟩
def BadAll(w:World)(ao:Option Addr)(n c:Nat)(r err:Int):Prop:=
 ∀W,Below w.heap.size w W->Calls Tryz.prog 8 #[.slice ao n c,.int .i64 r] W (BadF W err)/\Calls Tryz.prog 21 #[.slice ao n c,.int .i64 r] W (BadF W err)/\Calls Tryz.prog 22 #[.slice ao n c,.int .i64 r] W (BadF W err)
theorem bad_all{w:World}{ao:Option Addr}{n c:Nat}{r err:Int}(h0:err≠0)(h:∀W,Below w.heap.size w W->Calls Tryz.prog 8 #[.slice ao n c,.int .i64 r] W (BadF W err)):BadAll w ao n c r err:=
 fun W hW=>⟨h W hW,border_bad h0 (h W hW),packed_bad h0 (h W hW)⟩
theorem raw_check{w:World}{ao:Option Addr}{n c:Nat}{ls:List (List (Int×Int))}(r:Int)(h:Po.RingsAt w w.heap.size ao ls)(hl:ls.length=n)(hn:n<=25)(ht:Po.totTo ls ls.length<=1000000000000000)(hz:Po.checkF ls≠0):BadAll w ao n c r (Po.checkF ls):=
 bad_all hz fun _ hW=>fill_chk r hW.size (h.below hW lr) hl hn ht hz
theorem check_tot{ls:List (List (Int×Int))}(h:Po.checkF ls=0):Po.totTo ls ls.length<=500:=by
 unfold Po.checkF at h
 split at h
 ·cases h
 ·omega
theorem raw_at{w:World}{ao:Option Addr}{n:Nat}{ls:List (List (Int×Int))}(h:Po.RingsAt w w.heap.size ao ls)(hl:ls.length=n)(hn:n<=25)(hz:Po.checkF ls=0):RgAt w w.heap.size ao n ls:=
 ⟨h,hl,by omega,Nat.le_trans (check_tot hz) (by decide)⟩
theorem raw_box{w:World}{ao:Option Addr}{n c:Nat}{ls:List (List (Int×Int))}(r:Int)(h:RgAt w w.heap.size ao n ls)(hz:Po.checkF ls=0)(hc:chE (blo ls) (bhi ls) r≠0):BadAll w ao n c r (chE (blo ls) (bhi ls) r):=
 bad_all hc fun W hW=>by
  refine(fill_any (c:=c) r hW.size (h.below hW lr)).mono ?_;rintro e w' ⟨hP,hb⟩;unfold FillP at hP;rw[if_pos hz,if_neg hc]at hP;exact⟨hP,hb⟩
end
end Go.Proofs.YtpkoapmpknbgoaaGreat
namespace Go.Proofs.YtpkoapmpknbgoaaGreat.Po
section
open Go.RowKit Go.Deep Go.ChangeShapes Go.WideShapes
section
variable {H : Type} {enc : TypeId × Value -> H} {w : World} {held : Bool}
theorem cellsPt':Tryz.prog.cellsOf 26=2:=by kernel_rfl
theorem cellsI64':Tryz.prog.cellsOf 2=1:=by kernel_rfl
theorem cellsRing':Tryz.prog.cellsOf 27=1:=by kernel_rfl
theorem open_pt{fuel:Nat}{cs:List Value}{x:DataW H×List MemPlace}(h:DataW.trod enc Tryz.prog w 0 (fun _=>true) held fuel 26 cs=some x):∃p:Pt,cs=[.int .i64 p.1,.int .i64 p.2]:=by
 obtain⟨xs,m,rfl,_,hl,hlen,hget⟩:=DataW.trod_array Tryz.underlying26 h;have h0:=hget 0 (by omega);have h1:=hget 1 (by omega);rw[cellsI64',List.getElem?_eq_getElem (by omega)]at h0 h1;obtain⟨a,ea,_,_⟩:=DataW.trod_int Tryz.underlying2 h0;obtain⟨b,eb,_,_⟩:=DataW.trod_int Tryz.underlying2 h1;rw[cellsPt']at hl
 match cs,hl with
 |[u,v],_=>
  simp at ea eb;exact⟨(a,b),by rw[ea,eb]⟩
theorem plain_of{a:Addr}{v:Value}(h:w.cell? (a.add 0)=some v):a.spot=none:=by simpa[Addr.add]using World.cell?_spot h
theorem open_ring{fuel:Nat}{ao:Option Addr}{n c:Nat}{x:DataW H×List MemPlace}(h:DataW.trod enc Tryz.prog w 0 (fun _=>true) held fuel 27 [.slice ao n c]=some x):
  ∃l:List Pt,l.length=n/\RingAt w w.heap.size ao l:=by
 rcases open_slice Tryz.underlying27 h with⟨h0,_⟩|⟨a,len,cap,m,k,D,Pl,hcs,_,hl,_,hm,_,hx⟩
 ·simp at h0
  obtain⟨rfl,rfl,rfl⟩:=h0;exact⟨[],rfl,fun h0=>by simp at h0⟩
 ·simp at hcs
  obtain⟨rfl,rfl,rfl⟩:=hcs;simp only[if_true]at hm;subst hm;obtain⟨X,hX⟩:=choose_lt (α:=Pt) (n:=n) (p:=fun i p=>w.cell? (a.add (i*2))=some (.int .i64 p.1)/\w.cell? (a.add (i*2+1))=some (.int .i64 p.2)) fun i hi=>by
   obtain⟨cs',h1,h2⟩:=hx i (by omega);rw[cellsPt']at h1;obtain⟨p,rfl⟩:=open_pt h2;obtain⟨_,_,hc⟩:=World.cells?_some h1;refine⟨p,?_,?_⟩
   ·have:=hc 0 (by omega)
    rw[add_add]at this;simpa using this
   ·have:=hc 1 (by omega)
    rw[add_add]at this;simpa using this
  refine⟨(List.range n).map X,by simp,fun h0=>?_⟩;have hn0:0<n:=by simpa using h0
  obtain⟨b,off,spot⟩:=a;have hspot:spot=none:=plain_of (by simpa using(hX 0 hn0).1);subst hspot;have hadd:∀i,(⟨b,off,none⟩:Addr).add i=⟨b,off+i,none⟩:=fun i=>by unfold Addr.add;split <;> simp_all
  have hb:=World.block_lt_of_cell? w _ ((hadd _) ▸ (hX 0 hn0).1);refine⟨b,off,rfl,hb,fun k hk=>?_⟩;have hk':k<n:=by simpa using hk
  obtain⟨g1,g2⟩:=hX k hk';rw[hadd]at g1 g2;have e1:px ((List.range n).map X) k=(X k).1:=by unfold px;simp[List.getD_eq_getElem?_getD,hk']
  have e2:py ((List.range n).map X) k=(X k).2:=by unfold py;simp[List.getD_eq_getElem?_getD,hk']
  rw[e1,e2];exact⟨g1,by rw[Nat.add_assoc];exact g2⟩
instance : Inhabited (Option Addr × Nat × List Pt) := ⟨(none, 0, [])⟩
theorem weights_mem_all{P:Program}{e:TypeId}:∀{l:List (DataW H)} {d:DataW H},d∈l->∀q∈d.weights P e,q∈DataW.weightsAll P e l
 |c::l,d,hd,q,hq=>by
  rw[DataW.weightsAll,List.mem_append];rcases List.mem_cons.1 hd with rfl|h
  ·exact .inl hq
  ·exact .inr (weights_mem_all h q hq)
theorem bytesPt:Tryz.prog.bytesOf 26=16:=by kernel_rfl
theorem open_rings{fuel:Nat}{ao:Option Addr}{n c:Nat}{x:DataW H×List MemPlace}(h:DataW.trod enc Tryz.prog w 0 (fun _=>true) held fuel 28 [.slice ao n c]=some x)(hs:∀q∈x.1.weights Tryz.prog 28,q<=reachBytes):
  ∃ls:List (List Pt),ls.length=n/\RingsAt w w.heap.size ao ls/\n<=maxLen/\n<=c/\∀l∈ls,l.length<=10000000000000:=by
 rcases open_slice1 Tryz.underlying28 cellsRing' h with⟨h0,_⟩|⟨a,len,cap,m,k,V,D,Pl,hcs,_,hl,hmx,hm,hxe,hx⟩
 ·simp at h0
  obtain⟨rfl,rfl,rfl⟩:=h0;exact⟨[],rfl,fun h0=>by simp at h0,Nat.zero_le _,Nat.zero_le _,fun _ hl=>by cases hl⟩
 ·simp at hcs
  obtain⟨rfl,rfl,rfl⟩:=hcs;simp only[if_true]at hm;subst hm;have hsz:∀i,i<n->∀q∈(D i).weights Tryz.prog 27,q<=reachBytes:=fun i hi q hq=>by
   refine hs q ?_;rw[hxe];simp only[DataW.weights,Tryz.underlying28,List.mem_cons,List.mem_append];exact .inr (.inl (weights_mem_all (List.mem_map.2 ⟨i,List.mem_range.2 hi,rfl⟩) q hq))
  obtain⟨X,hX⟩:=choose_lt (α:=Option Addr×Nat×List Pt) (n:=n) (p:=fun i p=>w.cell? (a.add i)=some (.slice p.1 p.2.2.length p.2.1)/\RingAt w w.heap.size p.1 p.2.2/\p.2.2.length<=10000000000000) fun i hi=>by
   obtain⟨h1,h2⟩:=hx i (by omega);have hsl:∃(r:Option Addr) (q s:Nat),V i=.slice r q s/\q<=10000000000000:=by
    rcases open_slice Tryz.underlying27 h2 with⟨h0,_⟩|⟨a,len,cap,m',_,D',_,hcs,_,_,_,_,hd,_⟩
    ·exact⟨none,0,0,by simpa using h0,Nat.zero_le _⟩
    ·refine⟨some a,len,cap,by simpa using hcs,?_⟩
     simp only[Prod.mk.injEq]at hd;have:=hsz i hi ((((List.range len).map D').length+((List.range (m'-len)).map fun j=>D' (len+j)).length)*Tryz.prog.bytesOf 26) (by
      rw[hd.1];simp only[DataW.weights,Tryz.underlying27,List.mem_cons];exact .inl trivial)
     rw[bytesPt,List.length_map,List.length_range]at this;unfold reachBytes at this;omega
   obtain⟨r,q,s,e,hq⟩:=hsl;rw[e]at h1 h2;obtain⟨l,hl,hr⟩:=open_ring h2;exact⟨(r,s,l),by rw[hl];exact h1,hr,by rw[hl];exact hq⟩
  refine⟨(List.range n).map fun i=>(X i).2.2,by simp,fun h0=>?_,by omega,by omega,fun l hl=>?_⟩
  ·have hn0:0<n:=by simpa using h0
   obtain⟨b,off,spot⟩:=a;have hspot:spot=none:=plain_of (hX 0 hn0).1;subst hspot;have hadd:∀i,(⟨b,off,none⟩:Addr).add i=⟨b,off+i,none⟩:=fun i=>by unfold Addr.add;split <;> simp_all
   have hb:=World.block_lt_of_cell? w _ ((hadd _) ▸ (hX 0 hn0).1);refine⟨b,off,rfl,hb,fun k hk=>?_⟩;have hk':k<n:=by simpa using hk
   obtain⟨g1,g2,_⟩:=hX k hk';rw[hadd]at g1;have e1:rg ((List.range n).map fun i=>(X i).2.2) k=(X k).2.2:=by unfold rg;simp[List.getD_eq_getElem?_getD,hk']
   rw[e1];exact⟨_,_,g1,g2⟩
  ·obtain⟨i,hi,rfl⟩:=List.mem_map.1 hl
   exact(hX i (List.mem_range.1 hi)).2.2
theorem tot_big{ls:List (List Pt)}(hn:ls.length<=25)(h:∀l∈ls,l.length<=10000000000000):totTo ls ls.length<=1000000000000000:=by
 unfold totTo;rw[List.take_length];have:∀l:List (List Pt),(∀ q∈l,q.length<=10000000000000)->(l.map List.length).sum<=10000000000000*l.length:=by
  intro l
  induction l with
  |nil=>simp
  |cons a l ih=>
   intro hl;have h1:=hl a (by simp);have h2:=ih fun q hq=>hl q (by simp[hq])
   simp only[List.map_cons,List.sum_cons,List.length_cons];omega
 have:=this ls h;omega
end
end
end Go.Proofs.YtpkoapmpknbgoaaGreat.Po
namespace Go.Proofs.YtpkoapmpknbgoaaGreat
section
open Go.RowKit Go.Lib Wd Cv
theorem rgs_ok{X Y s:Int}(hX:0<=X)(hY:0<=Y){ls:List (List (Int×Int))}(h:RingsOK X Y s ls)(h0:0<ls.length):
  Po.RgsOK ls/\∀l∈ls,∀p∈l,(X<=p.1/\p.1<=X+7*s)/\Y<=p.2/\p.2<=Y+7*s:=by
 have hb:∀l∈ls,∀p∈l,(X<=p.1/\p.1<=X+7*s)/\Y<=p.2/\p.2<=Y+7*s:=fun l hl p hp=>by have:=(h.2 l hl).2.2 p hp;omega
 refine⟨⟨⟨h0,h.1⟩,fun l hl=>?_⟩,hb⟩;have h1:=h.2 l hl;refine⟨⟨h1.1,by have:=h1.2.1;omega⟩,fun p hp=>?_⟩;have:=h1.2.2 p hp;unfold Po.Wd1;omega
theorem rgs_tot{ls:List (List (Int×Int))}(h:Po.RgsOK ls):Po.totTo ls ls.length<=24:=by
 obtain⟨⟨h1,h2⟩,h3⟩:=h;unfold Po.totTo;rw[List.take_length]
 match ls,h1,h2,h3 with
 |[a],_,_,h3=>have:=(h3 a (by simp)).1.2;simp;omega
 |[a,b],_,_,h3=>have:=(h3 a (by simp)).1.2;have:=(h3 b (by simp)).1.2;simp;omega
 |[],h,_,_=>simp at h
 |_::_::_::_,_,h,_=>simp at h
theorem rgs_at{w:World}{base n c:Nat}{ao:Option Addr}{vs:List Value}{ls:List (List (Int×Int))}(h:w.ownsRow base 27 1 (.slice ao n c) n vs)(hO:Po.OwnRings w base vs ls)(hn:n=ls.length)(hk:Po.RgsOK ls):RgAt w w.heap.size ao n ls:=
 ⟨Po.rings_of_own h hO hn,hn.symm,by have:=hk.1.2;omega,Nat.le_trans (rgs_tot hk) (by decide)⟩
theorem rgs_good{R:Nat}(hR:R<=12){X Y s:Int}{ls:List (List (Int×Int))}(hk:Po.RgsOK ls)(hb:∀l∈ls,∀p∈l,(X<=p.1/\p.1<=X+7*s)/\Y<=p.2/\p.2<=Y+7*s)(hs:sizeN (12-R)=s)(h0:0<=s){w:World}{ao:Option Addr}{n c:Nat}(h:RgAt w w.heap.size ao n ls){W:World}(hW:Below w.heap.size w W):
  Calls Tryz.prog 8 #[.slice ao n c,.int .i64 R] W (GoodF W R ls id):=by
 obtain⟨w1,w2⟩:=wide_ok hk hb (d:=28*sizeN (12-R)) (by omega) (by omega);exact fill_t hR hk w1 w2 hW.size (h.below hW lr)
theorem isFil_eq{R:Nat}{ls:List (List (Int×Int))}{L M:List Int}(h:IsFil R ls L)(h2:IsFil R ls M):M=L:=h2.1.ext h.1 fun x=>by rw[h.2.1,h2.2.1]
end
section
open Go.RowKit Go.Lib Wd
theorem rpar_any(r:Int)(z:E2)(w:World):Calls Tryz.prog 91 #[vC r z] w fun e w'=>e=.returned (.tuple #[vC (if cpE r z=0 then r-1 else 0) (if cpE r z=0 then upE z else(0,0)),.int .i64 (cpE r z)])/\Below w.heap.size w w':=by
 have HOK:=Hd (rok_any r z);obtain⟨T0,G0,B0⟩:=two_new w r z;by_cases h:okB r z=true
 ·obtain⟨r0,r12,hsm⟩:=ok_parts h
  rw[h]at HOK;by_cases hr:r=0
  ·have hE:cpE r z=3:=by unfold cpE;rw[if_pos h,if_pos hr]
   rw[hE,if_neg (by decide),if_neg (by decide)];subst hr;clear hE h hsm;simp only[vC]at*
   go_enter Tryz.func91,Tryz.ntmps91
   go_upto_region 1 with(fail)
   generalize(w.alloc (.cells #[.int .i64 0,.int .i64 z.1,.int .i64 z.2] 39)).alloc (.cells #[.int .i64 0,.int .i64 0,.int .i64 0] 39)=w0 at *;obtain⟨t0,t1,t2,t3,t4,t5,t6⟩:=T0.out.cells
   go_wp2_with fail
   refine(HOK.out _).mono ?_;rintro e w1 ⟨rfl,hb1⟩;have B1:=Hd (B0.out.trans (hb1.mono B0.out.size));have T1:=Hd (T0.out.later hb1);have G1:=Hd (G0.out.later hb1);clear hb1 t0 t1 t2 t3 t4 t5 t6 T0 G0 B0;obtain⟨t0,t1,t2,t3,t4,t5,t6⟩:=T1.out.cells;obtain⟨g0,g1,g2,g3,g4,g5,g6⟩:=G1.out.cells;go_wp2;exact bodyPost_ret (v:=.tuple #[.agg #[.int .i64 0,.int .i64 0,.int .i64 0],.int .i64 3]) (by simp[results,Tryz.results91,go_sem, *]) rfl ⟨rfl,below3 B1.out (by omega) _ _ _⟩
  ·have hE:cpE r z=0:=by unfold cpE;rw[if_pos h,if_neg hr]
   rw[hE,if_pos rfl,if_pos rfl];have HST:=Hd (parent_in z (hsm.mono (by decide)));have q1:(r==0)=false:=by simp[hr]
   have q2:IntKind.i64.wrap (r-1)=r-1:=wrap_in (by omega) (by omega);generalize upE z=p at *;generalize digE z=dg at *;clear hE h hsm hr;simp only[vC,vE]at*
   go_enter Tryz.func91,Tryz.ntmps91
   go_upto_region 1 with(fail)
   generalize(w.alloc (.cells #[.int .i64 r,.int .i64 z.1,.int .i64 z.2] 39)).alloc (.cells #[.int .i64 0,.int .i64 0,.int .i64 0] 39)=w0 at *;obtain⟨t0,t1,t2,t3,t4,t5,t6⟩:=T0.out.cells
   go_wp2_with fail
   refine(HOK.out _).mono ?_;rintro e w1 ⟨rfl,hb1⟩;have B1:=Hd (B0.out.trans (hb1.mono B0.out.size));have T1:=Hd (T0.out.later hb1);have G1:=Hd (G0.out.later hb1);clear hb1 t0 t1 t2 t3 t4 t5 t6 T0 G0 B0;obtain⟨t0,t1,t2,t3,t4,t5,t6⟩:=T1.out.cells
   go_wp2_with fail
   refine(HST.out _).mono ?_;rintro e w2 ⟨rfl,hb2⟩;have hal:Below w2.heap.size w2 (w2.alloc (.cells #[.int .i64 p.1,.int .i64 p.2] 37)):=br.alloc lr _;have hb3:=hb2.trans (hal.mono hb2.size);have B2:=Hd (B1.out.trans (hb3.mono B1.out.size));have P2:Hid (Two (w2.alloc (.cells #[.int .i64 p.1,.int .i64 p.2] 37)) w2.heap.size (.int .i64 p.1) (.int .i64 p.2)):=Two.of_row (t:=37) (f:=_) (heap_new _ _ _ rfl);have T2:=Hd (T1.out.later hb3);have G2:=Hd (G1.out.later hb3);clear hb2 hb3 hal t0 t1 t2 t3 t4 t5 t6 T1 G1 B1
   go_upto_region 6 with(fail)
   generalize w2.alloc (.cells #[.int .i64 p.1,.int .i64 p.2] 37)=w3 at *;obtain⟨p0,p1⟩:=P2.out;obtain⟨t0,t1,t2,t3,t4,t5,t6⟩:=T2.out.cells;obtain⟨g0,g1,g2,g3,g4,g5,g6⟩:=G2.out.cells;go_wp2;exact bodyPost_ret (v:=.tuple #[.agg #[.int .i64 (r-1),.int .i64 p.1,.int .i64 p.2],.int .i64 0]) (by simp[results,Tryz.results91,go_sem, *]) rfl ⟨rfl,below3 B2.out (by omega) _ _ _⟩
 ·have hE:cpE r z=2:=by unfold cpE;rw[if_neg h]
  rw[hE,if_neg (by decide),if_neg (by decide)];rw[Bool.eq_false_iff.2 h]at HOK;clear hE h;simp only[vC]at*
  go_enter Tryz.func91,Tryz.ntmps91
  go_upto_region 1 with(fail)
  generalize(w.alloc (.cells #[.int .i64 r,.int .i64 z.1,.int .i64 z.2] 39)).alloc (.cells #[.int .i64 0,.int .i64 0,.int .i64 0] 39)=w0 at *;obtain⟨t0,t1,t2,t3,t4,t5,t6⟩:=T0.out.cells
  go_wp2_with fail
  refine(HOK.out _).mono ?_;rintro e w1 ⟨rfl,hb1⟩;have B1:=Hd (B0.out.trans (hb1.mono B0.out.size));have G1:=Hd (G0.out.later hb1);clear hb1 t0 t1 t2 t3 t4 t5 t6 T0 G0 B0;obtain⟨g0,g1,g2,g3,g4,g5,g6⟩:=G1.out.cells;go_wp2;exact bodyPost_ret (v:=.tuple #[.agg #[.int .i64 0,.int .i64 0,.int .i64 0],.int .i64 2]) (by simp[results,Tryz.results91,go_sem, *]) rfl ⟨rfl,below3 B1.out (by omega) _ _ _⟩
theorem wup_any(w0:Nat)(hw:w0<18446744073709551616)(w:World):Calls Tryz.prog 54 #[.int .u64 w0] w fun e w'=>e=.returned (.tuple #[.int .u64 (parW w0:Nat),.int .i64 (parE w0)])/\Below w.heap.size w w':=by
 have HC:=Hd (rcell_any w0 hw);have HP:=Hd (rpar_any (cvR w0) (cvZ w0));have HO:=Hd (word_any (cvR w0-1) (upE (cvZ w0)));rcases par_cases w0 with⟨e1,e2,e3⟩|⟨e1,e2,e3,e4⟩|⟨e1,e2,e3,e4,e5⟩
 ·rw[e2,e3]
  rw[e1]at HC;generalize cvR w0=r at *;generalize cvZ w0=z at *;clear e1 e2 e3 HP HO;simp only[vC]at*
  go_enter Tryz.func54,Tryz.ntmps54
  go_wp2_with fail
  refine(HC.out _).mono ?_;rintro e w1 ⟨rfl,hb1⟩;have B1:Hid (Below w.heap.size w (w1.alloc (.cells #[.int .i64 r,.int .i64 z.1,.int .i64 z.2] 39))):=hb1.alloc hb1.size _;clear hb1;go_wp2;go_ret2;exact⟨rfl,B1.out⟩
 ·rw[e3,e4]
  rw[e1]at HC;rw[e2,if_neg (by decide),if_neg (by decide)]at HP;generalize cvR w0=r at *;generalize cvZ w0=z at *;clear e1 e2 e3 e4 HO;simp only[vC]at*
  go_enter Tryz.func54,Tryz.ntmps54
  go_wp2_with fail
  refine(HC.out _).mono ?_;rintro e w1 ⟨rfl,hb1⟩;have B1:Hid (Below w.heap.size w (w1.alloc (.cells #[.int .i64 r,.int .i64 z.1,.int .i64 z.2] 39))):=hb1.alloc hb1.size _;have T1:Hid (Tri (w1.alloc (.cells #[.int .i64 r,.int .i64 z.1,.int .i64 z.2] 39)) w1.heap.size r z):=heap_new _ _ _ rfl;clear hb1
  go_upto_region 2 with(fail)
  generalize w1.alloc (.cells #[.int .i64 r,.int .i64 z.1,.int .i64 z.2] 39)=w2 at *;obtain⟨t0,t1,t2,t3,t4,t5,t6⟩:=T1.out.cells
  go_wp2_with fail
  refine(HP.out _).mono ?_;rintro e w3 ⟨rfl,hb3⟩;have B3:Hid (Below w.heap.size w (w3.alloc (.cells #[.int .i64 0,.int .i64 0,.int .i64 0] 39))):=(B1.out.trans (hb3.mono B1.out.size)).alloc (Nat.le_trans B1.out.size hb3.size) _;clear hb3 t0 t1 t2 t3 t4 t5 t6;go_wp2;go_ret2;exact⟨rfl,B3.out⟩
 ·rw[e3]
  rw[e1]at HC;rw[e2,if_pos rfl,if_pos rfl]at HP;rw[e4,e5]at HO;generalize parW w0=v at *;generalize cvR w0=r at *;generalize cvZ w0=z at *;generalize upE z=p at *;clear e1 e2 e3 e4 e5;simp only[vC]at*
  go_enter Tryz.func54,Tryz.ntmps54
  go_wp2_with fail
  refine(HC.out _).mono ?_;rintro e w1 ⟨rfl,hb1⟩;have B1:Hid (Below w.heap.size w (w1.alloc (.cells #[.int .i64 r,.int .i64 z.1,.int .i64 z.2] 39))):=hb1.alloc hb1.size _;have T1:Hid (Tri (w1.alloc (.cells #[.int .i64 r,.int .i64 z.1,.int .i64 z.2] 39)) w1.heap.size r z):=heap_new _ _ _ rfl;clear hb1
  go_upto_region 2 with(fail)
  generalize w1.alloc (.cells #[.int .i64 r,.int .i64 z.1,.int .i64 z.2] 39)=w2 at *;obtain⟨t0,t1,t2,t3,t4,t5,t6⟩:=T1.out.cells
  go_wp2_with fail
  refine(HP.out _).mono ?_;rintro e w3 ⟨rfl,hb3⟩;have B3:Hid (Below w.heap.size w (w3.alloc (.cells #[.int .i64 (r-1),.int .i64 p.1,.int .i64 p.2] 39))):=(B1.out.trans (hb3.mono B1.out.size)).alloc (Nat.le_trans B1.out.size hb3.size) _;have T3:Hid (Tri (w3.alloc (.cells #[.int .i64 (r-1),.int .i64 p.1,.int .i64 p.2] 39)) w3.heap.size (r-1) p):=heap_new _ _ _ rfl;clear hb3 t0 t1 t2 t3 t4 t5 t6 T1 B1
  go_upto_region 5 with(fail)
  generalize w3.alloc (.cells #[.int .i64 (r-1),.int .i64 p.1,.int .i64 p.2] 39)=w4 at *;obtain⟨t0,t1,t2,t3,t4,t5,t6⟩:=T3.out.cells
  go_wp2_with fail
  refine(HO.out _).mono ?_;rintro e w5 ⟨rfl,hb5⟩;have B5:=Hd (B3.out.trans (hb5.mono B3.out.size));clear hb5;go_wp2;go_ret2;exact⟨rfl,B5.out⟩
end
end Go.Proofs.YtpkoapmpknbgoaaGreat
