/- Joined: CvA, CvB, CvC, PnA, HxA, FhA, FhB: contracts and plain laws, each with its own heading below. -/
import Derived.Test.YtpkoapmpknbgoaaGreatPackBE
import Derived.Test.YtpkoapmpknbgoaaGreatPackBF
import Derived.Test.YtpkoapmpknbgoaaGreatPackBD
import Derived.Test.YtpkoapmpknbgoaaGreatPackBC
import Derived.ChangeKeysEq
import Derived.Deep.RegionLawGrows
import Derived.Deep.AppendLies
set_option maxRecDepth 100000
set_option maxHeartbeats 4000000
namespace Go.Proofs.YtpkoapmpknbgoaaGreat.Cv
section
theorem div_le{a b c:Rat}(hb:0<b):a/b<=c↔a<=c*b:=by
 have:=Rat.lt_div_iff (a:=c) (b:=a) hb
 grind
theorem le_div{a b c:Rat}(hc:0<c):a<=b/c↔a*c<=b:=by
 have:=Rat.div_lt_iff (a:=b) (c:=a) hc
 grind
theorem helly1:∀(L:List (Rat×Rat)),(∀ p∈L,∀q∈L,p.1<=q.2)->∃x,∀p∈L,p.1<=x/\x<=p.2:=by
 have hm:∀(L:List (Rat×Rat)) (a:Rat×Rat),∃p,(p=a∨p∈L)/\a.1<=p.1/\∀q∈L,q.1<=p.1:=by
  intro L
  induction L with
  |nil=>intro a;exact⟨a,.inl rfl,Rat.le_refl,fun q hq=>by cases hq⟩
  |cons b L ih=>
   intro a;by_cases h:a.1<=b.1
   ·obtain⟨p,hp,h1,h2⟩:=ih b
    refine⟨p,?_,by grind,?_⟩
    ·rcases hp with rfl|hp
     ·exact .inr (by simp)
     ·exact .inr (by simp[hp])
    ·intro q hq
     rcases List.mem_cons.1 hq with rfl|hq
     ·exact h1
     ·exact h2 q hq
   ·obtain⟨p,hp,h1,h2⟩:=ih a
    refine⟨p,?_,h1,?_⟩
    ·rcases hp with rfl|hp
     ·exact .inl rfl
     ·exact .inr (by simp[hp])
    ·intro q hq
     rcases List.mem_cons.1 hq with rfl|hq
     ·grind
     ·exact h2 q hq
 intro L h;cases L with
 |nil=>exact⟨0,fun p hp=>by cases hp⟩
 |cons a L=>
  obtain⟨p,hp,h1,h2⟩:=hm L a;have hp':p∈a::L:=by rcases hp with rfl|hp <;> simp[*]
  refine⟨p.1,fun q hq=>⟨?_,h p hp' q hq⟩⟩;rcases List.mem_cons.1 hq with rfl|hq
  ·exact h1
  ·exact h2 q hq
theorem peel0(L:List (Rat×Rat×Rat))(h0:∀p∈L,0<=p.2.2)(h1:∀p∈L,-(p.2.1+p.2.2)<=p.1/\p.1<=p.2.1+p.2.2)
  (h2:∀p∈L,∀q∈L,p.1*q.2.2-q.1*p.2.2<=p.2.1*q.2.2+q.2.1*p.2.2):
  ∃t:Rat,-1<=t/\t<=1/\∀p∈L,-p.2.1<=p.1-t*p.2.2/\p.1-t*p.2.2<=p.2.1:=by
 obtain⟨t,ht⟩:=helly1 ((-1,1)::(L.filter fun p=>decide (0<p.2.2)).map fun p=>((p.1-p.2.1)/p.2.2,(p.1+p.2.1)/p.2.2)) (by
  intro p hp q hq;rcases List.mem_cons.1 hp with rfl|hp <;> rcases List.mem_cons.1 hq with rfl|hq
  ·decide
  ·obtain⟨b,hb,rfl⟩:=List.mem_map.1 hq
   obtain⟨hb,hb2⟩:=List.mem_filter.1 hb;have hb2:=of_decide_eq_true hb2;have:=h1 b hb;simp only;rw[le_div hb2]
   grind
  ·obtain⟨a,ha,rfl⟩:=List.mem_map.1 hp
   obtain⟨ha,ha2⟩:=List.mem_filter.1 ha;have ha2:=of_decide_eq_true ha2;have:=h1 a ha;simp only;rw[div_le ha2]
   grind
  ·obtain⟨a,ha,rfl⟩:=List.mem_map.1 hp
   obtain⟨ha,ha2⟩:=List.mem_filter.1 ha;have ha2:=of_decide_eq_true ha2;obtain⟨b,hb,rfl⟩:=List.mem_map.1 hq;obtain⟨hb,hb2⟩:=List.mem_filter.1 hb;have hb2:=of_decide_eq_true hb2;have:=h2 a ha b hb;simp only;rw[div_le ha2];have e:(b.1+b.2.1)/b.2.2*a.2.2=((b.1+b.2.1)*a.2.2)/b.2.2:=by grind
   rw[e,le_div hb2]
   grind)
 have hb:=ht (-1,1) (by simp);refine⟨t,hb.1,hb.2,fun p hp=>?_⟩;by_cases hd:0<p.2.2
 ·have:=ht ((p.1-p.2.1)/p.2.2,(p.1+p.2.1)/p.2.2) (by
   refine List.mem_cons_of_mem _ (List.mem_map.2 ⟨p,List.mem_filter.2 ⟨hp,decide_eq_true hd⟩,rfl⟩))
  simp only at this;rw[div_le hd,le_div hd]at this
  grind
 ·have e:p.2.2=0:=by have:=h0 p hp;grind
  have:=h1 p hp;rw[e]at this ⊢
  grind
def ab(x:Rat):Rat:=if 0<=x then x else -x
theorem ab_le{a b:Rat}:ab a<=b↔ -b<=a/\a<=b:=by unfold ab;grind
theorem ab_nonneg(a:Rat):0<=ab a:=by unfold ab;grind
theorem ab_neg(a:Rat):ab (-a)=ab a:=by unfold ab;grind
theorem ab_of{a:Rat}(h:0<=a):ab a=a:=by unfold ab;grind
theorem ab_neg_of{a:Rat}(h:a<=0):ab a= -a:=by unfold ab;grind
theorem ab_mul(a b:Rat):ab (a*b)=ab a*ab b:=by
 by_cases ha:0<=a <;> by_cases hb:0<=b
 ·rw[ab_of ha,ab_of hb,ab_of (Rat.mul_nonneg ha hb)]
 ·have:=Rat.mul_nonneg ha (show 0<= -b by grind)
  rw[ab_of ha,ab_neg_of (a:=b) (by grind),ab_neg_of (by grind)];grind
 ·have:=Rat.mul_nonneg (show 0<= -a by grind) hb
  rw[ab_of hb,ab_neg_of (a:=a) (by grind),ab_neg_of (by grind)];grind
 ·have:=Rat.mul_nonneg (show 0<= -a by grind) (show 0<= -b by grind)
  rw[ab_neg_of (a:=a) (by grind),ab_neg_of (a:=b) (by grind),ab_of (by grind)];grind
theorem ab_sub(a b:Rat):ab (a-b)<=ab a+ab b:=by unfold ab;grind
theorem peel(L:List (Rat×Rat×Rat))(h1:∀p∈L,ab p.1<=p.2.1+ab p.2.2)
  (h2:∀p∈L,∀q∈L,ab (p.1*q.2.2-q.1*p.2.2)<=p.2.1*ab q.2.2+q.2.1*ab p.2.2):
  ∃t:Rat,-1<=t/\t<=1/\∀p∈L,ab (p.1-t*p.2.2)<=p.2.1:=by
 obtain⟨t,ht1,ht2,ht⟩:=peel0 (L.map fun p=>if 0<=p.2.2 then p else(-p.1,p.2.1,-p.2.2)) (by
  intro p hp;obtain⟨a,ha,rfl⟩:=List.mem_map.1 hp
  split <;> grind) (by
  intro p hp;obtain⟨a,ha,rfl⟩:=List.mem_map.1 hp;have:=ab_le.1 (h1 a ha)
  split <;> rename_i h
  ·rw[ab_of h]at this;exact this
  ·unfold ab at this;rw[if_neg h]at this;simp only;grind) (by
  intro p hp q hq;obtain⟨a,ha,rfl⟩:=List.mem_map.1 hp;obtain⟨b,hb,rfl⟩:=List.mem_map.1 hq;have:=h2 a ha b hb;rw[ab_le]at this;by_cases ca:0<=a.2.2 <;> by_cases cb:0<=b.2.2 <;> simp only[ab,ca,cb,if_true,if_false]at this ⊢ <;> grind)
 refine⟨t,ht1,ht2,fun p hp=>?_⟩;have:=ht _ (List.mem_map.2 ⟨p,hp,rfl⟩);rw[ab_le]
 split at this
 ·exact this
 ·simp only at this;grind
theorem pair_ok{hy py px hx Mx D ai bi aj bj:Rat}{dj di ej ei:Rat}(hD:0<=D)(hhx:0<=hx)
  (ea:ab dj=aj) (eb:ab ej=bj) (ec:ab di=ai) (ed:ab ei=bi)
  (hdet:ab (dj*ei-ej*di)=D∨ab (dj*ei-ej*di)=0) (h1:ab px<=hx+Mx) (hM:Mx<=aj+ai) (Fj Fi:Rat) (hFj:Fj=dj*py-ej*px) (hFi:Fi=di*py-ei*px):
  ab (Fj*(di*hy)-Fi*(dj*hy))<=(D+hx*bj)*ab (di*hy)+(D+hx*bi)*ab (dj*hy):=by
 subst hFj hFi;rw[show (dj*py-ej*px)*(di*hy)-(di*py-ei*px)*(dj*hy)=(hy*px)*(dj*ei-ej*di) by grind,ab_mul,ab_mul,ab_mul,ab_mul,ea,ec];have hb:=ab_nonneg hy;have n1:=ab_nonneg dj;have n2:=ab_nonneg di;have n3:=ab_nonneg ej;have n4:=ab_nonneg ei;rw[ea]at n1;rw[ec]at n2;rw[eb]at n3;rw[ed]at n4;have c1:=Rat.mul_nonneg hhx (Rat.mul_nonneg n3 n2);have c2:=Rat.mul_nonneg hhx (Rat.mul_nonneg n4 n1);have c3:=Rat.mul_nonneg hD n1;have c4:=Rat.mul_nonneg hD n2;rcases hdet with e|e
 ·rw[e]
  have h3:D<=aj*bi+bj*ai:=by
   have:=ab_sub (dj*ei) (ej*di);rw[e,ab_mul,ab_mul,ea,eb,ec,ed]at this;exact this
  have h4:=Rat.mul_le_mul_of_nonneg_left h1 hD;have h5:=Rat.mul_le_mul_of_nonneg_left hM hD;have h6:=Rat.mul_le_mul_of_nonneg_left h3 hhx;have h7:D*ab px<=(D+hx*bj)*ai+(D+hx*bi)*aj:=by grind
  have h8:=Rat.mul_le_mul_of_nonneg_left h7 hb
  grind
 ·rw[e]
  have h7:0<=(D+hx*bj)*ai+(D+hx*bi)*aj:=by grind
  have h8:=Rat.mul_nonneg hb h7
  grind
theorem two_mul'(a:Rat):2*a=a+a:=by grind
theorem tri2(a b:Rat):ab a<=ab b+ab (b-a):=by unfold ab;grind
theorem half_sum(x y:Rat):(ab x+ab y+ab (y-x))/2<=ab x+ab y/\(ab x+ab y+ab (y-x))/2<=ab x+ab (y-x)/\(ab x+ab y+ab (y-x))/2<=ab y+ab (y-x):=by
 unfold ab;grind
theorem peel_y{d0x d0y d1x d1y hx hy px py D Mx My:Rat}(hhx:0<=hx)(hhy:0<=hy)(hD:D=d0x*d1y-d0y*d1x)(hD0:0<=D)
  (hMx:Mx=(ab d0x+ab d1x+ab (d1x-d0x))/2) (hMy:My=(ab d0y+ab d1y+ab (d1y-d0y))/2)
  (h1:ab px<=hx+Mx) (h2:ab py<=hy+My)
  (e0:ab (d0x*py-d0y*px)<=D+hx*ab d0y+hy*ab d0x)
  (e1:ab (d1x*py-d1y*px)<=D+hx*ab d1y+hy*ab d1x)
  (e2:ab ((d1x-d0x)*py-(d1y-d0y)*px)<=D+hx*ab (d1y-d0y)+hy*ab (d1x-d0x)):
  ∃t:Rat,-1<=t/\t<=1/\ab (py-t*hy)<=My/\ab (d0x*(py-t*hy)-d0y*px)<=D+hx*ab d0y/\ab (d1x*(py-t*hy)-d1y*px)<=D+hx*ab d1y/\
   ab ((d1x-d0x)*(py-t*hy)-(d1y-d0y)*px)<=D+hx*ab (d1y-d0y):=by
 have hX:=half_sum d0x d1x;have hY:=half_sum d0y d1y;rw[<- hMx]at hX;rw[<- hMy]at hY;obtain⟨d2x,g2x⟩:∃d2x,d1x-d0x=d2x:=⟨_,rfl⟩;obtain⟨d2y,g2y⟩:∃d2y,d1y-d0y=d2y:=⟨_,rfl⟩;rw[g2x]at hX hMx e2 ⊢;rw[g2y]at hY hMy e2 ⊢;have D01:ab (d0x*d1y-d0y*d1x)=D:=by rw[<- hD,ab_of hD0]
 have D02:ab (d0x*d2y-d0y*d2x)=D:=by rw[show d0x*d2y-d0y*d2x=D by grind,ab_of hD0]
 have D12:ab (d1x*d2y-d1y*d2x)=D:=by rw[show d1x*d2y-d1y*d2x=D by grind,ab_of hD0]
 have D10:ab (d1x*d0y-d1y*d0x)=D:=by rw[show d1x*d0y-d1y*d0x= -D by grind,ab_neg,ab_of hD0]
 have D20:ab (d2x*d0y-d2y*d0x)=D:=by rw[show d2x*d0y-d2y*d0x= -D by grind,ab_neg,ab_of hD0]
 have D21:ab (d2x*d1y-d2y*d1x)=D:=by rw[show d2x*d1y-d2y*d1x= -D by grind,ab_neg,ab_of hD0]
 have Z:∀a b:Rat,ab (a*b-b*a)=0:=fun a b=>by rw[show a*b-b*a=0 by grind];rfl
 have hself:∀{dx dy:Rat},ab dx*My+D≥ab dy*Mx->ab (py*(dx*hy)-(dx*py-dy*px)*hy)<=My*ab (dx*hy)+(D+hx*ab dy)*ab hy:=by
  intro dx dy hh;rw[show py*(dx*hy)-(dx*py-dy*px)*hy=hy*(dy*px) by grind,ab_mul,ab_mul,ab_mul];have c1:=Rat.mul_le_mul_of_nonneg_left h1 (ab_nonneg dy);have c2:=Rat.mul_le_mul_of_nonneg_left (show ab dy*ab px<=ab dx*My+D+hx*ab dy by grind) (ab_nonneg hy)
  grind
 have hs:∀{dx dy a0 b0 a1 b1 a2 b2:Rat},ab (dx*b0-dy*a0)<=D->ab (dx*b1-dy*a1)<=D->ab (dx*b2-dy*a2)<=D->ab (dx*b0-dy*a0)+ab (dx*b1-dy*a1)+ab (dx*b2-dy*a2)<=2*D->ab dx*((ab b0+ab b1+ab b2)/2)+D≥ab dy*((ab a0+ab a1+ab a2)/2):=by
  intro dx dy a0 b0 a1 b1 a2 b2 k0 k1 k2 k;have q:∀a b:Rat,ab dy*ab a<=ab dx*ab b+ab (dx*b-dy*a):=fun a b=>by
   have:=tri2 (dy*a) (dx*b);rw[ab_mul,ab_mul]at this;exact this
  have:=q a0 b0;have:=q a1 b1;have:=q a2 b2
  grind
 have s0:ab d0x*My+D≥ab d0y*Mx:=by rw[hMx,hMy];exact hs (by rw[Z];exact hD0) (by rw[D01];exact Rat.le_refl) (by rw[D02];exact Rat.le_refl) (by rw[Z,D01,D02,Rat.zero_add, <-two_mul'];exact Rat.le_refl)
 have s1:ab d1x*My+D≥ab d1y*Mx:=by rw[hMx,hMy];exact hs (by rw[D10];exact Rat.le_refl) (by rw[Z];exact hD0) (by rw[D12];exact Rat.le_refl) (by rw[Z,D10,D12,Rat.add_zero, <-two_mul'];exact Rat.le_refl)
 have s2:ab d2x*My+D≥ab d2y*Mx:=by rw[hMx,hMy];exact hs (by rw[D20];exact Rat.le_refl) (by rw[D21];exact Rat.le_refl) (by rw[Z];exact hD0) (by rw[Z,D20,D21,Rat.add_zero, <-two_mul'];exact Rat.le_refl)
 have t0:=hself s0;have t1:=hself s1;have t2:=hself s2;have sw:∀{a b:Rat} {c:Rat},ab (a-b)<=c->ab (b-a)<=c:=fun {a b c} h=>by rw[show b-a= -(a-b) by grind,ab_neg];exact h
 have hMy0:0<=My:=by have n0:=ab_nonneg d0y;have n1:=ab_nonneg d1y;have n2:=ab_nonneg d2y;clear hs hself sw Z;grind
 have f0:0<=D+hx*ab d0y:=by have:=Rat.mul_nonneg hhx (ab_nonneg d0y);clear hs hself sw Z;grind
 have f1:0<=D+hx*ab d1y:=by have:=Rat.mul_nonneg hhx (ab_nonneg d1y);clear hs hself sw Z;grind
 have f2:0<=D+hx*ab d2y:=by have:=Rat.mul_nonneg hhx (ab_nonneg d2y);clear hs hself sw Z;grind
 have sf:∀{F S d:Rat},0<=S->ab (F*d-F*d)<=S*ab d+S*ab d:=fun {F S d} h=>by
  rw[Rat.sub_self];have:=Rat.mul_nonneg h (ab_nonneg d);show(0:Rat)<=_;clear hs hself sw Z;grind
 have sw2:∀{a b c d:Rat},ab (a-b)<=c+d->ab (b-a)<=d+c:=fun {a b c d} h=>by rw[Rat.add_comm];exact sw h
 obtain⟨t,ht1,ht2,ht⟩:=peel [(py,My,hy),(d0x*py-d0y*px,D+hx*ab d0y,d0x*hy),(d1x*py-d1y*px,D+hx*ab d1y,d1x*hy),(d2x*py-d2y*px,D+hx*ab d2y,d2x*hy)] (by
  intro p hp;simp only[List.mem_cons,List.not_mem_nil,or_false]at hp;clear hs hself sw Z sf sw2;rcases hp with rfl|rfl|rfl|rfl <;> simp only[ab_mul,ab_of hhy] <;> grind) (by
  intro p hp q hq;simp only[List.mem_cons,List.not_mem_nil,or_false]at hp hq;rcases hp with rfl|rfl|rfl|rfl <;> rcases hq with rfl|rfl|rfl|rfl <;> simp only
  ·exact sf hMy0
  ·exact t0
  ·exact t1
  ·exact t2
  ·exact sw2 t0
  ·exact sf f0
  ·exact pair_ok hD0 hhx rfl rfl rfl rfl (.inl D01) h1 hX.1 _ _ rfl rfl
  ·exact pair_ok hD0 hhx rfl rfl rfl rfl (.inl D02) h1 hX.2.1 _ _ rfl rfl
  ·exact sw2 t1
  ·exact sw2 (pair_ok hD0 hhx rfl rfl rfl rfl (.inl D01) h1 hX.1 _ _ rfl rfl)
  ·exact sf f1
  ·exact pair_ok hD0 hhx rfl rfl rfl rfl (.inl D12) h1 hX.2.2 _ _ rfl rfl
  ·exact sw2 t2
  ·exact sw2 (pair_ok hD0 hhx rfl rfl rfl rfl (.inl D02) h1 hX.2.1 _ _ rfl rfl)
  ·exact sw2 (pair_ok hD0 hhx rfl rfl rfl rfl (.inl D12) h1 hX.2.2 _ _ rfl rfl)
  ·exact sf f2)
 refine⟨t,ht1,ht2,?_,?_,?_,?_⟩
 ·exact ht (py,My,hy) (by simp)
 ·clear hs hself sw Z sf sw2
  have:=ht (d0x*py-d0y*px,D+hx*ab d0y,d0x*hy) (by simp);rw[show d0x*(py-t*hy)-d0y*px=d0x*py-d0y*px-t*(d0x*hy) by grind];exact this
 ·clear hs hself sw Z sf sw2
  have:=ht (d1x*py-d1y*px,D+hx*ab d1y,d1x*hy) (by simp);rw[show d1x*(py-t*hy)-d1y*px=d1x*py-d1y*px-t*(d1x*hy) by grind];exact this
 ·clear hs hself sw Z sf sw2
  have:=ht (d2x*py-d2y*px,D+hx*ab d2y,d2x*hy) (by simp);rw[show d2x*(py-t*hy)-d2y*px=d2x*py-d2y*px-t*(d2x*hy) by grind];exact this
theorem peel_x{d0x d0y d1x d1y hx px py D My:Rat}(hhx:0<=hx)(hD:D=d0x*d1y-d0y*d1x)(hD0:0<=D)
  (hMy:My=(ab d0y+ab d1y+ab (d1y-d0y))/2)
  (h2:ab py<=My)
  (e0:ab (d0x*py-d0y*px)<=D+hx*ab d0y)
  (e1:ab (d1x*py-d1y*px)<=D+hx*ab d1y)
  (e2:ab ((d1x-d0x)*py-(d1y-d0y)*px)<=D+hx*ab (d1y-d0y)):
  ∃s:Rat,-1<=s/\s<=1/\ab (d0x*py-d0y*(px-s*hx))<=D/\ab (d1x*py-d1y*(px-s*hx))<=D/\
   ab ((d1x-d0x)*py-(d1y-d0y)*(px-s*hx))<=D:=by
 have hY:=half_sum d0y d1y;rw[<- hMy]at hY;obtain⟨d2x,g2x⟩:∃d2x,d1x-d0x=d2x:=⟨_,rfl⟩;obtain⟨d2y,g2y⟩:∃d2y,d1y-d0y=d2y:=⟨_,rfl⟩;rw[g2x]at e2 ⊢;rw[g2y]at hY hMy e2 ⊢;have sw2:∀{a b c d:Rat},ab (a-b)<=c+d->ab (b-a)<=d+c:=fun {a b c d} h=>by rw[show b-a= -(a-b) by grind,ab_neg,Rat.add_comm];exact h
 have sf:∀{F d:Rat},ab (F*d-F*d)<=D*ab d+D*ab d:=fun {F d}=>by
  rw[Rat.sub_self];have:=Rat.mul_nonneg hD0 (ab_nonneg d);show(0:Rat)<=_;clear sw2;grind
 have pr:∀{ax ay bx b:Rat},ax*b-ay*bx=D->My<=ab ay+ab b->ab ((ax*py-ay*px)*(-(b*hx))-(bx*py-b*px)*(-(ay*hx)))<=D*ab (-(b*hx))+D*ab (-(ay*hx)):=by
  intro ax ay bx b hd hm;clear sw2 sf;rw[show (ax*py-ay*px)*(-(b*hx))-(bx*py-b*px)*(-(ay*hx))= -((ax*b-ay*bx)*hx*py) by grind,hd,ab_neg,ab_neg,ab_neg,ab_mul,ab_mul,ab_mul,ab_mul,ab_of hD0,ab_of hhx];have c1:=Rat.mul_le_mul_of_nonneg_left (show ab py<=ab ay+ab b by grind) (Rat.mul_nonneg hD0 hhx)
  grind
 have p01:=pr (ax:=d0x) (ay:=d0y) (bx:=d1x) (b:=d1y) hD.symm hY.1;have p02:=pr (ax:=d0x) (ay:=d0y) (bx:=d2x) (b:=d2y) (by clear pr sw2 sf;grind) hY.2.1;have p12:=pr (ax:=d1x) (ay:=d1y) (bx:=d2x) (b:=d2y) (by clear pr sw2 sf;grind) hY.2.2;obtain⟨t,ht1,ht2,ht⟩:=peel [(d0x*py-d0y*px,D,-(d0y*hx)),(d1x*py-d1y*px,D,-(d1y*hx)),(d2x*py-d2y*px,D,-(d2y*hx))] (by
  intro p hp;simp only[List.mem_cons,List.not_mem_nil,or_false]at hp;clear pr sw2 sf p01 p02 p12;rcases hp with rfl|rfl|rfl <;> simp only[ab_neg,ab_mul,ab_of hhx] <;> grind) (by
  intro p hp q hq;simp only[List.mem_cons,List.not_mem_nil,or_false]at hp hq;rcases hp with rfl|rfl|rfl <;> rcases hq with rfl|rfl|rfl <;> simp only
  ·exact sf
  ·exact p01
  ·exact p02
  ·exact sw2 p01
  ·exact sf
  ·exact p12
  ·exact sw2 p02
  ·exact sw2 p12
  ·exact sf)
 refine⟨t,ht1,ht2,?_,?_,?_⟩
 ·clear pr sw2 sf p01 p02 p12
  have:=ht (d0x*py-d0y*px,D,-(d0y*hx)) (by simp);rw[show d0x*py-d0y*(px-t*hx)=d0x*py-d0y*px-t* -(d0y*hx) by grind];exact this
 ·clear pr sw2 sf p01 p02 p12
  have:=ht (d1x*py-d1y*px,D,-(d1y*hx)) (by simp);rw[show d1x*py-d1y*(px-t*hx)=d1x*py-d1y*px-t* -(d1y*hx) by grind];exact this
 ·clear pr sw2 sf p01 p02 p12
  have:=ht (d2x*py-d2y*px,D,-(d2y*hx)) (by simp);rw[show d2x*py-d2y*(px-t*hx)=d2x*py-d2y*px-t* -(d2y*hx) by grind];exact this
def inH(d0x d0y d1x d1y D cx cy X Y:Rat):Prop:=
 ab (d0x*(Y-cy)-d0y*(X-cx))<=D/\ab (d1x*(Y-cy)-d1y*(X-cx))<=D/\ab ((d1x-d0x)*(Y-cy)-(d1y-d0y)*(X-cx))<=D
theorem ab_max{a b M:Rat}(hM:M=(ab a+ab b+ab (b-a))/2):ab a<=M/\ab b<=M/\ab (b-a)<=M:=by
 subst hM;unfold ab;grind
theorem common{d0x d0y d1x d1y D cx cy lx ly ux uy:Rat}(hD:D=d0x*d1y-d0y*d1x)(hD0:0<=D)(hx:lx<=ux)(hy:ly<=uy)
  (x1:lx-cx<=ab d0x∨lx-cx<=ab d1x∨lx-cx<=ab (d1x-d0x)) (x2:cx-ux<=ab d0x∨cx-ux<=ab d1x∨cx-ux<=ab (d1x-d0x))
  (y1:ly-cy<=ab d0y∨ly-cy<=ab d1y∨ly-cy<=ab (d1y-d0y)) (y2:cy-uy<=ab d0y∨cy-uy<=ab d1y∨cy-uy<=ab (d1y-d0y))
  (e:∀dx dy,(dx=d0x/\dy=d0y)∨(dx=d1x/\dy=d1y)∨(dx=d1x-d0x/\dy=d1y-d0y)->(∃ X Y,(X=lx∨X=ux)/\(Y=ly∨Y=uy)/\dx*(Y-cy)-dy*(X-cx)<=D)/\∃X Y,(X=lx∨X=ux)/\(Y=ly∨Y=uy)/\ -D<=dx*(Y-cy)-dy*(X-cx)):
  ∃X Y,lx<=X/\X<=ux/\ly<=Y/\Y<=uy/\inH d0x d0y d1x d1y D cx cy X Y:=by
 have hE:∀dx dy,(dx=d0x/\dy=d0y)∨(dx=d1x/\dy=d1y)∨(dx=d1x-d0x/\dy=d1y-d0y)->ab (dx*((ly+uy)/2-cy)-dy*((lx+ux)/2-cx))<=D+(ux-lx)/2*ab dy+(uy-ly)/2*ab dx:=by
  intro dx dy hd;obtain⟨⟨X,Y,hX,hY,h⟩,X',Y',hX',hY',h'⟩:=e dx dy hd;have bX:ab (X-(lx+ux)/2)=(ux-lx)/2:=by clear e h h' hd x1 x2 y1 y2;unfold ab;grind
  have bY:ab (Y-(ly+uy)/2)=(uy-ly)/2:=by clear e h h' hd x1 x2 y1 y2;unfold ab;grind
  have bX':ab (X'-(lx+ux)/2)=(ux-lx)/2:=by clear e h h' hd x1 x2 y1 y2;unfold ab;grind
  have bY':ab (Y'-(ly+uy)/2)=(uy-ly)/2:=by clear e h h' hd x1 x2 y1 y2;unfold ab;grind
  have c1:=ab_le.1 (ab_sub (dx*(Y-(ly+uy)/2)) (dy*(X-(lx+ux)/2)));have c2:=ab_le.1 (ab_sub (dx*(Y'-(ly+uy)/2)) (dy*(X'-(lx+ux)/2)));rw[ab_mul,ab_mul,bX,bY]at c1;rw[ab_mul,ab_mul,bX',bY']at c2;rw[ab_le];clear bX bY bX' bY' e hd hX hY hX' hY' x1 x2 y1 y2;constructor <;> grind
 obtain⟨Mx,hMx⟩:∃Mx,Mx=(ab d0x+ab d1x+ab (d1x-d0x))/2:=⟨_,rfl⟩;obtain⟨My,hMy⟩:∃My,My=(ab d0y+ab d1y+ab (d1y-d0y))/2:=⟨_,rfl⟩;have mx:=ab_max hMx;have my:=ab_max hMy;obtain⟨t,t1,t2,k0,k1,k2,k3⟩:=peel_y (px:=(lx+ux)/2-cx) (py:=(ly+uy)/2-cy) (hx:=(ux-lx)/2) (hy:=(uy-ly)/2) (by clear e hE;grind) (by clear e hE;grind) hD hD0 hMx hMy
  (by rw[ab_le];clear e hE;grind) (by rw[ab_le];clear e hE;grind) (hE _ _ (.inl ⟨rfl,rfl⟩)) (hE _ _ (.inr (.inl ⟨rfl,rfl⟩))) (hE _ _ (.inr (.inr ⟨rfl,rfl⟩)))
 obtain⟨s,s1,s2,l0,l1,l2⟩:=peel_x (hx:=(ux-lx)/2) (by clear e hE;grind) hD hD0 hMy k0 k1 k2 k3;have q1:=Rat.mul_le_mul_of_nonneg_right t1 (show 0<=(uy-ly)/2 by clear e hE;grind);have q2:=Rat.mul_le_mul_of_nonneg_right t2 (show 0<=(uy-ly)/2 by clear e hE;grind);have q3:=Rat.mul_le_mul_of_nonneg_right s1 (show 0<=(ux-lx)/2 by clear e hE;grind);have q4:=Rat.mul_le_mul_of_nonneg_right s2 (show 0<=(ux-lx)/2 by clear e hE;grind);clear e hE x1 x2 y1 y2 mx my hMx hMy k0 k1 k2 k3;refine⟨(lx+ux)/2-s*((ux-lx)/2),(ly+uy)/2-t*((uy-ly)/2),by grind,by grind,by grind,by grind,?_⟩;rw[show (ly+uy)/2-cy-t*((uy-ly)/2)=(ly+uy)/2-t*((uy-ly)/2)-cy by grind,show(lx+ux)/2-cx-s*((ux-lx)/2)=(lx+ux)/2-s*((ux-lx)/2)-cx by grind]at l0 l1 l2;exact⟨l0,l1,l2⟩
theorem reach_x{a b D d0 d1 U:Rat}(hD:0<D)(ha:ab a<=D)(hb:ab b<=D)(hc:ab (b-a)<=D)(h:U*D=a*d1-b*d0):ab U<=ab d0∨ab U<=ab d1∨ab U<=ab (d1-d0):=by
 obtain⟨a1,a2⟩:=ab_le.1 ha;obtain⟨b1,b2⟩:=ab_le.1 hb;obtain⟨c1,c2⟩:=ab_le.1 hc;have key:∀{x:Rat},ab (U*D)<=D*ab x->ab U<=ab x:=fun {x} hh=>by
  rw[ab_mul,ab_of (show(0:Rat)<=D by grind),Rat.mul_comm]at hh;exact Rat.le_of_mul_le_mul_left hh hD
 have fin:(ab (U*D)<=D*ab d0∨ab (U*D)<=D*ab d1∨ab (U*D)<=D*ab (d1-d0))->ab U<=ab d0∨ab U<=ab d1∨ab U<=ab (d1-d0):=by
  rintro(h|h|h)
  ·exact .inl (key h)
  ·exact .inr (.inl (key h))
  ·exact .inr (.inr (key h))
 apply fin;clear fin key ha hb hc;rw[h];have p:∀{x y:Rat},x<=y->∀{z:Rat},0<=z->0<=(y-x)*z:=fun {x y} hxy {z} hz=>Rat.mul_nonneg (by grind) hz
 rcases(show 0<=d0∨0<= -d0 by grind)with s0|s0 <;> rcases(show 0<=d1∨0<= -d1 by grind)with s1|s1
 ·rcases(show 0<=d1-d0∨0<=d0-d1 by grind)with s2|s2
  ·have q1:=p a2 s2
   have q2:=p a1 s2;have q3:=p c2 s0;have q4:=p c1 s0;right;left;rw[ab_of s1,ab_le];clear p;constructor <;> grind
  ·have q1:=p b2 s2
   have q2:=p b1 s2;have q3:=p c2 s1;have q4:=p c1 s1;left;rw[ab_of s0,ab_le];clear p;constructor <;> grind
 ·have q1:=p a2 s1
  have q2:=p a1 s1;have q3:=p b2 s0;have q4:=p b1 s0;right;right;rw[ab_neg_of (show d1-d0<=0 by clear p;grind),ab_le];clear p;constructor <;> grind
 ·have q1:=p a2 s1
  have q2:=p a1 s1;have q3:=p b2 s0;have q4:=p b1 s0;right;right;rw[ab_of (show 0<=d1-d0 by clear p;grind),ab_le];clear p;constructor <;> grind
 ·rcases(show 0<=d1-d0∨0<=d0-d1 by grind)with s2|s2
  ·have q1:=p b2 s2
   have q2:=p b1 s2;have q3:=p c2 s1;have q4:=p c1 s1;left;rw[ab_neg_of (show d0<=0 by clear p;grind),ab_le];clear p;constructor <;> grind
  ·have q1:=p a2 s2
   have q2:=p a1 s2;have q3:=p c2 s0;have q4:=p c1 s0;right;left;rw[ab_neg_of (show d1<=0 by clear p;grind),ab_le];clear p;constructor <;> grind
theorem parts{d0x d0y d1x d1y D cx cy lx ly ux uy X Y:Rat}(hD:D=d0x*d1y-d0y*d1x)(hD0:0<D)(h1:lx<=X)(h2:X<=ux)(h3:ly<=Y)(h4:Y<=uy)(h:inH d0x d0y d1x d1y D cx cy X Y):
  (lx-cx<=ab d0x∨lx-cx<=ab d1x∨lx-cx<=ab (d1x-d0x))/\(cx-ux<=ab d0x∨cx-ux<=ab d1x∨cx-ux<=ab (d1x-d0x))/\
  (ly-cy<=ab d0y∨ly-cy<=ab d1y∨ly-cy<=ab (d1y-d0y))/\(cy-uy<=ab d0y∨cy-uy<=ab d1y∨cy-uy<=ab (d1y-d0y))/\
  (∀ dx dy,(dx=d0x/\dy=d0y)∨(dx=d1x/\dy=d1y)∨(dx=d1x-d0x/\dy=d1y-d0y)->(∃ X Y,(X=lx∨X=ux)/\(Y=ly∨Y=uy)/\dx*(Y-cy)-dy*(X-cx)<=D)/\∃X Y,(X=lx∨X=ux)/\(Y=ly∨Y=uy)/\ -D<=dx*(Y-cy)-dy*(X-cx)):=by
 obtain⟨ha,hb,hc⟩:=h;have hc':ab ((d1x*(Y-cy)-d1y*(X-cx))-(d0x*(Y-cy)-d0y*(X-cx)))<=D:=by
  rw[show (d1x*(Y-cy)-d1y*(X-cx))-(d0x*(Y-cy)-d0y*(X-cx))=(d1x-d0x)*(Y-cy)-(d1y-d0y)*(X-cx) by grind];exact hc
 have rx:=reach_x (U:=X-cx) (d0:=d0x) (d1:=d1x) hD0 ha hb hc' (by rw[hD];grind);have ry:=reach_x (U:=Y-cy) (d0:=d0y) (d1:=d1y) hD0 ha hb hc' (by rw[hD];grind);have mono:∀{u v U:Rat},(U<=v)->ab v<=u->U<=u:=fun {u v U} h1 h2=>by have:=(ab_le.1 h2).2;grind
 have mono2:∀{u v U:Rat},(U<= -v)->ab v<=u->U<=u:=fun {u v U} h1 h2=>by have:=(ab_le.1 h2).1;grind
 refine⟨?_,?_,?_,?_,?_⟩
 ·rcases rx with r|r|r
  ·exact .inl (mono (by clear mono mono2;grind) r)
  ·exact .inr (.inl (mono (by clear mono mono2;grind) r))
  ·exact .inr (.inr (mono (by clear mono mono2;grind) r))
 ·rcases rx with r|r|r
  ·exact .inl (mono2 (by clear mono mono2;grind) r)
  ·exact .inr (.inl (mono2 (by clear mono mono2;grind) r))
  ·exact .inr (.inr (mono2 (by clear mono mono2;grind) r))
 ·rcases ry with r|r|r
  ·exact .inl (mono (by clear mono mono2;grind) r)
  ·exact .inr (.inl (mono (by clear mono mono2;grind) r))
  ·exact .inr (.inr (mono (by clear mono mono2;grind) r))
 ·rcases ry with r|r|r
  ·exact .inl (mono2 (by clear mono mono2;grind) r)
  ·exact .inr (.inl (mono2 (by clear mono mono2;grind) r))
  ·exact .inr (.inr (mono2 (by clear mono mono2;grind) r))
 ·intro dx dy hd
  have hf:ab (dx*(Y-cy)-dy*(X-cx))<=D:=by
   rcases hd with⟨rfl,rfl⟩|⟨rfl,rfl⟩|⟨rfl,rfl⟩
   ·exact ha
   ·exact hb
   ·exact hc
  obtain⟨f1,f2⟩:=ab_le.1 hf;clear mono mono2 rx ry hf ha hb hc hc' hd hD;have p:∀{x y:Rat},x<=y->∀{z:Rat},0<=z->0<=(y-x)*z:=fun {x y} hxy {z} hz=>Rat.mul_nonneg (by grind) hz
  rcases(show 0<=dx∨0<= -dx by grind)with s|s <;> rcases(show 0<=dy∨0<= -dy by grind)with s'|s'
  ·have q1:=p h3 s
   have q2:=p h4 s;have q3:=p h1 s';have q4:=p h2 s';exact⟨⟨ux,ly,.inr rfl,.inl rfl,by clear p;grind⟩,lx,uy,.inl rfl,.inr rfl,by clear p;grind⟩
  ·have q1:=p h3 s
   have q2:=p h4 s;have q3:=p h1 s';have q4:=p h2 s';exact⟨⟨lx,ly,.inl rfl,.inl rfl,by clear p;grind⟩,ux,uy,.inr rfl,.inr rfl,by clear p;grind⟩
  ·have q1:=p h3 s
   have q2:=p h4 s;have q3:=p h1 s';have q4:=p h2 s';exact⟨⟨ux,uy,.inr rfl,.inr rfl,by clear p;grind⟩,lx,ly,.inl rfl,.inl rfl,by clear p;grind⟩
  ·have q1:=p h3 s
   have q2:=p h4 s;have q3:=p h1 s';have q4:=p h2 s';exact⟨⟨lx,uy,.inl rfl,.inr rfl,by clear p;grind⟩,ux,ly,.inr rfl,.inl rfl,by clear p;grind⟩
theorem exit:∀(L:List (Rat×Rat)) (D:Rat),(∀ q∈L,q.1<=D)->(∃ q∈L,D<q.2)->
  ∃t:Rat,0<=t/\t<=1/\(∀ q∈L,q.1+t*(q.2-q.1)<=D)/\∃q∈L,D<q.2/\q.1+t*(q.2-q.1)=D:=by
 intro L D h
 induction L with
 |nil=>rintro⟨q,hq,-⟩;cases hq
 |cons a L ih=>
  intro hex;have ha:=h a (by simp);have ih':=ih fun q hq=>h q (by simp[hq])
  have own:D<a.2->∃t:Rat,0<=t/\t<=1/\a.1+t*(a.2-a.1)=D/\∀s,s<=t->a.1+s*(a.2-a.1)<=D:=fun hd=>by
   have hp:0<a.2-a.1:=by grind
   have e:=Rat.div_mul_cancel (a:=D-a.1) (b:=a.2-a.1) (by grind);refine⟨(D-a.1)/(a.2-a.1),?_,?_,by rw[e];grind,fun s hs=>?_⟩
   ·rw[le_div hp];grind
   ·rw[div_le hp];grind
   ·have:=Rat.mul_le_mul_of_nonneg_right hs (show 0<=a.2-a.1 by grind)
    rw[e]at this;grind
  by_cases hL:∃q∈L,D<q.2
  ·obtain⟨t,t0,t1,ht,q,hq,hq2,hqe⟩:=ih' hL
   by_cases hc:a.1+t*(a.2-a.1)<=D
   ·refine⟨t,t0,t1,fun p hp=>?_,q,by simp[hq],hq2,hqe⟩
    rcases List.mem_cons.1 hp with rfl|hp
    ·exact hc
    ·exact ht p hp
   ·have hd:D<a.2:=by
     have:=Rat.mul_nonneg (show 0<=1-t by grind) (show 0<=D-a.1 by grind);have h5:a.1+t*(a.2-a.1)=a.2-(1-t)*(a.2-a.1):=by grind
     rcases(show D<a.2∨a.2<=D by grind)with h6|h6
     ·exact h6
     ·exfalso
      have:=Rat.mul_nonneg t0 (show 0<=D-a.2 by grind)
      grind
    obtain⟨s,s0,s1,se,sm⟩:=own hd;have hst:s<=t:=by
     rcases(show s<=t∨t<=s by grind)with h6|h6
     ·exact h6
     ·exact absurd (sm t h6) hc
    refine⟨s,s0,s1,fun p hp=>?_,a,by simp,hd,se⟩;rcases List.mem_cons.1 hp with rfl|hp
    ·exact sm s Rat.le_refl
    ·have h7:=ht p hp
     have h8:=h p (by simp[hp]);clear ih ih' hex own hL ht h sm;rcases(show 0<=p.2-p.1∨0<=p.1-p.2 by grind)with h9|h9
     ·have:=Rat.mul_le_mul_of_nonneg_right hst h9;grind
     ·have:=Rat.mul_nonneg s0 h9;grind
  ·obtain⟨q,hq,hq2⟩:=hex
   rcases List.mem_cons.1 hq with rfl|hq
   ·obtain⟨s,s0,s1,se,sm⟩:=own hq2
    refine⟨s,s0,s1,fun p hp=>?_,q,by simp,hq2,se⟩;rcases List.mem_cons.1 hp with rfl|hp
    ·exact sm s Rat.le_refl
    ·have h8:=h p (by simp[hp])
     have h7:p.2<=D:=by
      rcases(show p.2<=D∨D<p.2 by grind)with h6|h6
      ·exact h6
      ·exact absurd ⟨p,hp,h6⟩ hL
     have:=Rat.mul_nonneg s0 (show 0<=D-p.2 by grind);have:=Rat.mul_nonneg (show 0<=1-s by grind) (show 0<=D-p.1 by grind);clear ih ih' hL h sm own
     grind
   ·exact absurd ⟨q,hq,hq2⟩ hL
def way(d0x d0y d1x d1y:Rat):Nat->Rat×Rat
 |0=>(2*d0x-d1x,2*d0y-d1y)
 |1=>(d0x+d1x,d0y+d1y)
 |2=>(2*d1x-d0x,2*d1y-d0y)
 |3=>(-(2*d0x-d1x),-(2*d0y-d1y))
 |4=>(-(d0x+d1x),-(d0y+d1y))
 |_=>(-(2*d1x-d0x),-(2*d1y-d0y))
def far(d0x d0y d1x d1y cx cy X Y:Rat):Rat:=
 (d0x*(Y-cy)-d0y*(X-cx))*(d0x*(Y-cy)-d0y*(X-cx))-(d0x*(Y-cy)-d0y*(X-cx))*(d1x*(Y-cy)-d1y*(X-cx))+(d1x*(Y-cy)-d1y*(X-cx))*(d1x*(Y-cy)-d1y*(X-cx))
theorem inH_six{d0x d0y d1x d1y D cx cy X Y a b:Rat}(ea:a=d0x*(Y-cy)-d0y*(X-cx))(eb:b=d1x*(Y-cy)-d1y*(X-cx)):
  inH d0x d0y d1x d1y D cx cy X Y↔a<=D/\ -a<=D/\b<=D/\ -b<=D/\a-b<=D/\b-a<=D:=by
 unfold inH;rw[show (d1x-d0x)*(Y-cy)-(d1y-d0y)*(X-cx)=b-a by grind, <-ea, <-eb,ab_le,ab_le,ab_le];clear ea eb;constructor
 ·grind
 ·grind
theorem descent{d0x d0y d1x d1y D cx cy X Y LX LY:Rat}(hD:D=d0x*d1y-d0y*d1x)(hD0:0<D)(hP:inH d0x d0y d1x d1y D cx cy X Y)(hL:¬inH d0x d0y d1x d1y D cx cy LX LY):
  ∃k,k<6/\(∃ t:Rat,0<=t/\t<=1/\inH d0x d0y d1x d1y D (cx+(way d0x d0y d1x d1y k).1) (cy+(way d0x d0y d1x d1y k).2) (X+t*(LX-X)) (Y+t*(LY-Y)))/\
   far d0x d0y d1x d1y (cx+(way d0x d0y d1x d1y k).1) (cy+(way d0x d0y d1x d1y k).2) LX LY<far d0x d0y d1x d1y cx cy LX LY:=by
 obtain⟨a,ea⟩:∃a,a=d0x*(Y-cy)-d0y*(X-cx):=⟨_,rfl⟩;obtain⟨b,eb⟩:∃b,b=d1x*(Y-cy)-d1y*(X-cx):=⟨_,rfl⟩;obtain⟨p,ep⟩:∃p,p=d0x*(LY-cy)-d0y*(LX-cx):=⟨_,rfl⟩;obtain⟨q,eq⟩:∃q,q=d1x*(LY-cy)-d1y*(LX-cx):=⟨_,rfl⟩;rw[inH_six ea eb]at hP;rw[inH_six ep eq]at hL;obtain⟨t,t0,t1,ht,s,hs,hs2,hse⟩:=exit [(a,p),(-a,-p),(b,q),(-b,-q),(a-b,p-q),(b-a,q-p)] D (by
  intro z hz;simp only[List.mem_cons,List.not_mem_nil,or_false]at hz;clear ea eb ep eq hL;rcases hz with rfl|rfl|rfl|rfl|rfl|rfl <;> simp only <;> grind) (by
  rcases(show D<p∨D< -p∨D<q∨D< -q∨D<p-q∨D<q-p by clear ea eb ep eq hP;grind)with h|h|h|h|h|h
  ·exact⟨(a,p),by simp,h⟩
  ·exact⟨(-a,-p),by simp,h⟩
  ·exact⟨(b,q),by simp,h⟩
  ·exact⟨(-b,-q),by simp,h⟩
  ·exact⟨(a-b,p-q),by simp,h⟩
  ·exact⟨(b-a,q-p),by simp,h⟩)
 obtain⟨u,eu⟩:∃u,u=a+t*(p-a):=⟨_,rfl⟩;obtain⟨v,ev⟩:∃v,v=b+t*(q-b):=⟨_,rfl⟩;have h1:=ht (a,p) (by simp);have h2:=ht (-a,-p) (by simp);have h3:=ht (b,q) (by simp);have h4:=ht (-b,-q) (by simp);have h5:=ht (a-b,p-q) (by simp);have h6:=ht (b-a,q-p) (by simp);simp only at h1 h2 h3 h4 h5 h6;have g:u<=D/\ -u<=D/\v<=D/\ -v<=D/\u-v<=D/\v-u<=D:=by clear ht hse hs hs2 ea eb ep eq hP hL hD;grind
 have eu2:u=d0x*(Y+t*(LY-Y)-cy)-d0y*(X+t*(LX-X)-cx):=by clear ht hse hs hs2 hP hL hD g h1 h2 h3 h4 h5 h6;grind
 have ev2:v=d1x*(Y+t*(LY-Y)-cy)-d1y*(X+t*(LX-X)-cx):=by clear ht hse hs hs2 hP hL hD g h1 h2 h3 h4 h5 h6;grind
 have fin:∀(k:Nat) (na nb:Rat),k<6->d0x*(way d0x d0y d1x d1y k).2-d0y*(way d0x d0y d1x d1y k).1=na->d1x*(way d0x d0y d1x d1y k).2-d1y*(way d0x d0y d1x d1y k).1=nb->
   (u-na<=D/\ -(u-na)<=D/\v-nb<=D/\ -(v-nb)<=D/\(u-na)-(v-nb)<=D/\(v-nb)-(u-na)<=D)->(p-na)*(p-na)-(p-na)*(q-nb)+(q-nb)*(q-nb)<p*p-p*q+q*q->∃k,k<6/\(∃ t:Rat,0<=t/\t<=1/\inH d0x d0y d1x d1y D (cx+(way d0x d0y d1x d1y k).1) (cy+(way d0x d0y d1x d1y k).2) (X+t*(LX-X)) (Y+t*(LY-Y)))/\
   far d0x d0y d1x d1y (cx+(way d0x d0y d1x d1y k).1) (cy+(way d0x d0y d1x d1y k).2) LX LY<far d0x d0y d1x d1y cx cy LX LY:=fun k na nb hk n1 n2 hin hfar=>⟨k,hk,⟨t,t0,t1,(inH_six (a:=u-na) (b:=v-nb) (by rw[eu2, <-n1];clear ht hse hs hs2 hP hL hD g h1 h2 h3 h4 h5 h6 hin hfar;grind) (by rw[ev2, <-n2];clear ht hse hs hs2 hP hL hD g h1 h2 h3 h4 h5 h6 hin hfar;grind)).2 hin⟩,by
  unfold far;rw[show d0x*(LY-(cy+(way d0x d0y d1x d1y k).2))-d0y*(LX-(cx+(way d0x d0y d1x d1y k).1))=p-na by rw[ep, <-n1];clear ht hse hs hs2 hP hL hD g h1 h2 h3 h4 h5 h6 hin hfar;grind,show d1x*(LY-(cy+(way d0x d0y d1x d1y k).2))-d1y*(LX-(cx+(way d0x d0y d1x d1y k).1))=q-nb by rw[eq, <-n2];clear ht hse hs hs2 hP hL hD g h1 h2 h3 h4 h5 h6 hin hfar;grind, <-ep, <-eq];exact hfar⟩
 have dp:∀{x:Rat},D<x->0<D*(x-D):=fun {x} hx=>Rat.mul_pos hD0 (by grind)
 simp only[List.mem_cons,List.not_mem_nil,or_false]at hs;clear ht h1 h2 h3 h4 h5 h6 eu2 ev2 ea eb ep eq hP hL;rcases hs with rfl|rfl|rfl|rfl|rfl|rfl <;> simp only at hs2 hse
 ·have:=dp hs2
  refine fin 2 (2*D) D (by decide) ?_ ?_ ?_ ?_ <;> clear fin dp <;> (try simp only[way]) <;> grind
 ·have:=dp hs2
  refine fin 5 (-(2*D)) (-D) (by decide) ?_ ?_ ?_ ?_ <;> clear fin dp <;> (try simp only[way]) <;> grind
 ·have:=dp hs2
  refine fin 3 D (2*D) (by decide) ?_ ?_ ?_ ?_ <;> clear fin dp <;> (try simp only[way]) <;> grind
 ·have:=dp hs2
  refine fin 0 (-D) (-(2*D)) (by decide) ?_ ?_ ?_ ?_ <;> clear fin dp <;> (try simp only[way]) <;> grind
 ·have:=dp hs2
  refine fin 1 D (-D) (by decide) ?_ ?_ ?_ ?_ <;> clear fin dp <;> (try simp only[way]) <;> grind
 ·have:=dp hs2
  refine fin 4 (-D) D (by decide) ?_ ?_ ?_ ?_ <;> clear fin dp <;> (try simp only[way]) <;> grind
end
end Go.Proofs.YtpkoapmpknbgoaaGreat.Cv
namespace Go.Proofs.YtpkoapmpknbgoaaGreat.Wd
section
open Go.Proofs.YtpkoapmpknbgoaaGreat.Cv
def kapE:Nat->E2
 |0=>(1,1)
 |1=>(-1,2)
 |2=>(-2,1)
 |3=>(-1,-1)
 |4=>(1,-2)
 |_=>(2,-1)
def spotE(c:E2):E2:=(52*c.1+26*c.2,45*c.2)
def midE(m:Nat)(z:E2):E2:=mulE (bE m) (3*z.1,3*z.2)
def cenE(m:Nat)(z:E2):E2:=spotE (midE m z)
def hexC(m:Nat)(z:E2)(k:Nat):E2:=spotE (addE (midE m z) (mulE (bE m) (kapE k)))
def d0E(m:Nat):E2:=spotE (mulE (bE m) (1,1))
def d1E(m:Nat):E2:=spotE (mulE (bE m) (-1,2))
def aN(m:Nat):Int:=7020*7 ^ m
theorem aN_pos(m:Nat):0<aN m:=by
 have:(0:Int)<7 ^ m:=Int.pow_pos (by decide);unfold aN;omega
theorem det_d{m:Nat}(hm:m<=12):(d0E m).1*(d1E m).2-(d0E m).2*(d1E m).1=aN m:=by
 rcases upto12 hm with rfl|rfl|rfl|rfl|rfl|rfl|rfl|rfl|rfl|rfl|rfl|rfl|rfl <;> decide
theorem hexC_eq(m:Nat)(z:E2):hexC m z 0=addE (cenE m z) (d0E m)/\hexC m z 1=addE (cenE m z) (d1E m)/\hexC m z 2=addE (cenE m z) (subE (d1E m) (d0E m))/\
  hexC m z 3=subE (cenE m z) (d0E m)/\hexC m z 4=subE (cenE m z) (d1E m)/\hexC m z 5=subE (cenE m z) (subE (d1E m) (d0E m)):=by
 unfold hexC cenE d0E d1E spotE;generalize midE m z=c;refine⟨?_,?_,?_,?_,?_,?_⟩ <;> ext <;> simp only[addE,subE,mulE,kapE] <;> omega
def crossE(p q c:E2):Int:=(q.1-p.1)*(c.2-p.2)-(q.2-p.2)*(c.1-p.1)
def boxC(lo hi:E2):List E2:=[lo,(hi.1,lo.2),hi,(lo.1,hi.2)]
def TouchP(v:Nat->E2)(lo hi:E2):Prop:=
 ((
  ∃k,k<6/\lo.1<=(v k).1)/\∃k,k<6/\(v k).1<=hi.1)/\((∃ k,k<6/\lo.2<=(v k).2)/\∃k,k<6/\(v k).2<=hi.2)/\
  ∀k,k<6->∃c∈boxC lo hi,0<=crossE (v k) (v ((k+1)%6)) c
def InZ(m:Nat)(z:E2)(X Y:Rat):Prop:=inH (d0E m).1 (d0E m).2 (d1E m).1 (d1E m).2 (aN m) (cenE m z).1 (cenE m z).2 X Y
theorem six_ex{p:Nat->Prop}:(∃ k,k<6/\p k)↔p 0∨p 1∨p 2∨p 3∨p 4∨p 5:=by
 constructor
 ·rintro⟨k,hk,h⟩
  rcases(show k=0∨k=1∨k=2∨k=3∨k=4∨k=5 by omega)with rfl|rfl|rfl|rfl|rfl|rfl <;> simp[h]
 ·rintro(h|h|h|h|h|h)
  ·exact⟨0,by decide,h⟩
  ·exact⟨1,by decide,h⟩
  ·exact⟨2,by decide,h⟩
  ·exact⟨3,by decide,h⟩
  ·exact⟨4,by decide,h⟩
  ·exact⟨5,by decide,h⟩
theorem six_all{p:Nat->Prop}:(∀ k,k<6->p k)↔p 0/\p 1/\p 2/\p 3/\p 4/\p 5:=by
 constructor
 ·intro h
  exact⟨h 0 (by decide),h 1 (by decide),h 2 (by decide),h 3 (by decide),h 4 (by decide),h 5 (by decide)⟩
 ·rintro⟨h0,h1,h2,h3,h4,h5⟩ k hk
  rcases(show k=0∨k=1∨k=2∨k=3∨k=4∨k=5 by omega)with rfl|rfl|rfl|rfl|rfl|rfl <;> assumption
theorem axis_iff{c d e l:Int}:(l<=c+d∨l<=c+e∨l<=c+(e-d)∨l<=c-d∨l<=c-e∨l<=c-(e-d))↔((l:Rat)-c<=ab d∨(l:Rat)-c<=ab e∨(l:Rat)-c<=ab ((e:Rat)-d)):=by
 have key:∀x:Int,(l:Rat)-c<=ab x↔l<=c+x∨l<=c-x:=fun x=>by
  have h0:(l:Rat)-c<=ab x↔(l:Rat)<=(c:Rat)+x∨(l:Rat)<=(c:Rat)-x:=by
   unfold ab;constructor <;> grind
  rw[h0];have e1:(l:Rat)<=(c:Rat)+x↔l<=c+x:=by exact_mod_cast Iff.rfl
  have e2:(l:Rat)<=(c:Rat)-x↔l<=c-x:=by exact_mod_cast Iff.rfl
  rw[e1,e2]
 have k3:=key (e-d);rw[show (((e-d:Int):Rat))=(e:Rat)-d by push_cast;rfl]at k3;rw[key d,key e,k3];constructor
 ·rintro(h|h|h|h|h|h) <;> simp[h]
 ·rintro((h|h)|(h|h)|(h|h)) <;> simp[h]
theorem axis_iff2{c d e u:Int}:(c+d<=u∨c+e<=u∨c+(e-d)<=u∨c-d<=u∨c-e<=u∨c-(e-d)<=u)↔((c:Rat)-u<=ab d∨(c:Rat)-u<=ab e∨(c:Rat)-u<=ab ((e:Rat)-d)):=by
 have key:∀x:Int,(c:Rat)-u<=ab x↔c+x<=u∨c-x<=u:=fun x=>by
  have h0:(c:Rat)-u<=ab x↔(c:Rat)+x<=u∨(c:Rat)-x<=u:=by
   unfold ab;constructor <;> grind
  rw[h0];have e1:(c:Rat)+x<=u↔c+x<=u:=by exact_mod_cast Iff.rfl
  have e2:(c:Rat)-x<=u↔c-x<=u:=by exact_mod_cast Iff.rfl
  rw[e1,e2]
 have k3:=key (e-d);rw[show (((e-d:Int):Rat))=(e:Rat)-d by push_cast;rfl]at k3;rw[key d,key e,k3];constructor
 ·rintro(h|h|h|h|h|h) <;> simp[h]
 ·rintro((h|h)|(h|h)|(h|h)) <;> simp[h]
theorem corner_ex{lo hi:E2}{p:Int->Int->Prop}:(∃ c∈boxC lo hi,p c.1 c.2)↔∃X Y,(X=lo.1∨X=hi.1)/\(Y=lo.2∨Y=hi.2)/\p X Y:=by
 unfold boxC;constructor
 ·rintro⟨c,hc,h⟩
  simp only[List.mem_cons,List.not_mem_nil,or_false]at hc;rcases hc with rfl|rfl|rfl|rfl
  ·exact⟨_,_,.inl rfl,.inl rfl,h⟩
  ·exact⟨_,_,.inr rfl,.inl rfl,h⟩
  ·exact⟨_,_,.inr rfl,.inr rfl,h⟩
  ·exact⟨_,_,.inl rfl,.inr rfl,h⟩
 ·rintro⟨X,Y,rfl|rfl,rfl|rfl,h⟩
  ·exact⟨lo,by simp,h⟩
  ·exact⟨(lo.1,hi.2),by simp,h⟩
  ·exact⟨(hi.1,lo.2),by simp,h⟩
  ·exact⟨hi,by simp,h⟩
theorem rat_corner{a b c d:Int}{p:Rat->Rat->Prop}:(∃ X Y:Rat,(X=(a:Rat)∨X=(b:Rat))/\(Y=(c:Rat)∨Y=(d:Rat))/\p X Y)↔∃X Y:Int,(X=a∨X=b)/\(Y=c∨Y=d)/\p X Y:=by
 constructor
 ·rintro⟨X,Y,rfl|rfl,rfl|rfl,h⟩
  ·exact⟨a,c,.inl rfl,.inl rfl,h⟩
  ·exact⟨a,d,.inl rfl,.inr rfl,h⟩
  ·exact⟨b,c,.inr rfl,.inl rfl,h⟩
  ·exact⟨b,d,.inr rfl,.inr rfl,h⟩
 ·rintro⟨X,Y,rfl|rfl,rfl|rfl,h⟩
  ·exact⟨_,_,.inl rfl,.inl rfl,h⟩
  ·exact⟨_,_,.inl rfl,.inr rfl,h⟩
  ·exact⟨_,_,.inr rfl,.inl rfl,h⟩
  ·exact⟨_,_,.inr rfl,.inr rfl,h⟩
theorem cross_six{m:Nat}(hm:m<=12)(z c:E2):
  crossE (hexC m z 0) (hexC m z 1) c=((d1E m).1-(d0E m).1)*(c.2-(cenE m z).2)-((d1E m).2-(d0E m).2)*(c.1-(cenE m z).1)+aN m/\
  crossE (hexC m z 1) (hexC m z 2) c=aN m-((d0E m).1*(c.2-(cenE m z).2)-(d0E m).2*(c.1-(cenE m z).1))/\
  crossE (hexC m z 2) (hexC m z 3) c=aN m-((d1E m).1*(c.2-(cenE m z).2)-(d1E m).2*(c.1-(cenE m z).1))/\
  crossE (hexC m z 3) (hexC m z 4) c=aN m-(((d1E m).1-(d0E m).1)*(c.2-(cenE m z).2)-((d1E m).2-(d0E m).2)*(c.1-(cenE m z).1))/\
  crossE (hexC m z 4) (hexC m z 5) c=(d0E m).1*(c.2-(cenE m z).2)-(d0E m).2*(c.1-(cenE m z).1)+aN m/\
  crossE (hexC m z 5) (hexC m z 0) c=(d1E m).1*(c.2-(cenE m z).2)-(d1E m).2*(c.1-(cenE m z).1)+aN m:=by
 obtain⟨h0,h1,h2,h3,h4,h5⟩:=hexC_eq m z;rw[h0,h1,h2,h3,h4,h5];have hd:=det_d hm;generalize d0E m=d at *;generalize d1E m=e at *;generalize cenE m z=o at *;generalize aN m=A at *;unfold crossE addE subE;refine⟨?_,?_,?_,?_,?_,?_⟩ <;> simp only <;> grind
theorem touch_iff{m:Nat}(hm:m<=12)(z lo hi:E2)(hx:lo.1<=hi.1)(hy:lo.2<=hi.2):
  TouchP (hexC m z) lo hi↔∃X Y:Rat,(lo.1:Rat)<=X/\X<=(hi.1:Rat)/\(lo.2:Rat)<=Y/\Y<=(hi.2:Rat)/\InZ m z X Y:=by
 have hD:(aN m:Rat)=((d0E m).1:Rat)*(d1E m).2-(d0E m).2*(d1E m).1:=by have:=det_d hm;exact_mod_cast this.symm
 have hD0:(0:Rat)<aN m:=by exact_mod_cast aN_pos m
 have hxr:(lo.1:Rat)<=hi.1:=by exact_mod_cast hx
 have hyr:(lo.2:Rat)<=hi.2:=by exact_mod_cast hy
 have key:TouchP (hexC m z) lo hi↔((((lo.1:Rat)-(cenE m z).1<=ab (d0E m).1∨(lo.1:Rat)-(cenE m z).1<=ab (d1E m).1∨(lo.1:Rat)-(cenE m z).1<=ab (((d1E m).1:Rat)-(d0E m).1))/\
   (((cenE m z).1:Rat)-hi.1<=ab (d0E m).1∨((cenE m z).1:Rat)-hi.1<=ab (d1E m).1∨((cenE m z).1:Rat)-hi.1<=ab (((d1E m).1:Rat)-(d0E m).1)))/\
   (((lo.2:Rat)-(cenE m z).2<=ab (d0E m).2∨(lo.2:Rat)-(cenE m z).2<=ab (d1E m).2∨(lo.2:Rat)-(cenE m z).2<=ab (((d1E m).2:Rat)-(d0E m).2))/\
   (((cenE m z).2:Rat)-hi.2<=ab (d0E m).2∨((cenE m z).2:Rat)-hi.2<=ab (d1E m).2∨((cenE m z).2:Rat)-hi.2<=ab (((d1E m).2:Rat)-(d0E m).2)))/\
   (∀ dx dy:Rat,(dx=(d0E m).1/\dy=(d0E m).2)∨(dx=(d1E m).1/\dy=(d1E m).2)∨(dx=((d1E m).1:Rat)-(d0E m).1/\dy=((d1E m).2:Rat)-(d0E m).2)->(∃ X Y:Rat,(X=lo.1∨X=hi.1)/\(Y=lo.2∨Y=hi.2)/\dx*(Y-(cenE m z).2)-dy*(X-(cenE m z).1)<=aN m)/\∃X Y:Rat,(X=lo.1∨X=hi.1)/\(Y=lo.2∨Y=hi.2)/\ -(aN m:Rat)<=dx*(Y-(cenE m z).2)-dy*(X-(cenE m z).1))):=by
  unfold TouchP;have hh:=hexC_eq m z;have h6:∀p:E2->Prop,(∃ k,k<6/\p (hexC m z k))↔p (addE (cenE m z) (d0E m))∨p (addE (cenE m z) (d1E m))∨p (addE (cenE m z) (subE (d1E m) (d0E m)))∨p (subE (cenE m z) (d0E m))∨p (subE (cenE m z) (d1E m))∨p (subE (cenE m z) (subE (d1E m) (d0E m))):=fun p=>by
   rw[six_ex,hh.1,hh.2.1,hh.2.2.1,hh.2.2.2.1,hh.2.2.2.2.1,hh.2.2.2.2.2]
  rw[h6 fun v=>lo.1<=v.1,h6 fun v=>v.1<=hi.1,h6 fun v=>lo.2<=v.2,h6 fun v=>v.2<=hi.2,six_all];have e1:=axis_iff (l:=lo.1) (c:=(cenE m z).1) (d:=(d0E m).1) (e:=(d1E m).1);have e2:=axis_iff2 (u:=hi.1) (c:=(cenE m z).1) (d:=(d0E m).1) (e:=(d1E m).1);have e3:=axis_iff (l:=lo.2) (c:=(cenE m z).2) (d:=(d0E m).2) (e:=(d1E m).2);have e4:=axis_iff2 (u:=hi.2) (c:=(cenE m z).2) (d:=(d0E m).2) (e:=(d1E m).2);rw[<- e1, <-e2, <-e3, <-e4];refine and_congr (and_congr Iff.rfl Iff.rfl) (and_congr (and_congr Iff.rfl Iff.rfl) ?_);have c6:=fun c=>cross_six hm z c
  generalize d0E m=d at *;generalize d1E m=e at *;generalize cenE m z=o at *;generalize aN m=A at *;have pos:∀(f:Int->Int->Int) (dx dy:Rat),(∀ X Y:Int,((f X Y:Int):Rat)=dx*((Y:Rat)-o.2)-dy*((X:Rat)-o.1)+A)->
    ((∃ c∈boxC lo hi,0<=f c.1 c.2)↔∃X Y:Rat,(X=lo.1∨X=hi.1)/\(Y=lo.2∨Y=hi.2)/\ -(A:Rat)<=dx*(Y-o.2)-dy*(X-o.1)):=by
   intro f dx dy hf;rw[corner_ex (p:=fun X Y=>0<=f X Y),rat_corner (p:=fun X Y=> -(A:Rat)<=dx*(Y-o.2)-dy*(X-o.1))];refine exists_congr fun X=>exists_congr fun Y=>and_congr Iff.rfl (and_congr Iff.rfl ?_)
   have h0:(0:Int)<=f X Y↔(0:Rat)<=((f X Y:Int):Rat):=by exact_mod_cast Iff.rfl
   rw[h0,hf];clear c6 e1 e2 e3 e4 h6 hf;constructor <;> grind
  have neg:∀(f:Int->Int->Int) (dx dy:Rat),(∀ X Y:Int,((f X Y:Int):Rat)=A-(dx*((Y:Rat)-o.2)-dy*((X:Rat)-o.1)))->
    ((∃ c∈boxC lo hi,0<=f c.1 c.2)↔∃X Y:Rat,(X=lo.1∨X=hi.1)/\(Y=lo.2∨Y=hi.2)/\dx*(Y-o.2)-dy*(X-o.1)<=A):=by
   intro f dx dy hf;rw[corner_ex (p:=fun X Y=>0<=f X Y),rat_corner (p:=fun X Y=>dx*(Y-o.2)-dy*(X-o.1)<=(A:Rat))];refine exists_congr fun X=>exists_congr fun Y=>and_congr Iff.rfl (and_congr Iff.rfl ?_)
   have h0:(0:Int)<=f X Y↔(0:Rat)<=((f X Y:Int):Rat):=by exact_mod_cast Iff.rfl
   rw[h0,hf];clear c6 e1 e2 e3 e4 h6 hf pos;constructor <;> grind
  have s0:=pos (fun X Y=>(e.1-d.1)*(Y-o.2)-(e.2-d.2)*(X-o.1)+A) ((e.1:Rat)-d.1) ((e.2:Rat)-d.2) (fun X Y=>by push_cast;rfl);have s1:=neg (fun X Y=>A-(d.1*(Y-o.2)-d.2*(X-o.1))) d.1 d.2 (fun X Y=>by push_cast;rfl);have s2:=neg (fun X Y=>A-(e.1*(Y-o.2)-e.2*(X-o.1))) e.1 e.2 (fun X Y=>by push_cast;rfl);have s3:=neg (fun X Y=>A-((e.1-d.1)*(Y-o.2)-(e.2-d.2)*(X-o.1))) ((e.1:Rat)-d.1) ((e.2:Rat)-d.2) (fun X Y=>by push_cast;rfl);have s4:=pos (fun X Y=>d.1*(Y-o.2)-d.2*(X-o.1)+A) d.1 d.2 (fun X Y=>by push_cast;rfl);have s5:=pos (fun X Y=>e.1*(Y-o.2)-e.2*(X-o.1)+A) e.1 e.2 (fun X Y=>by push_cast;rfl);have q0:∀{f:Int->Int->Int} {g:E2->Int},(∀ c,g c=f c.1 c.2)->((∃ c∈boxC lo hi,0<=g c)↔∃c∈boxC lo hi,0<=f c.1 c.2):=fun {f g} h=>exists_congr fun c=>and_congr Iff.rfl (by rw[h])
  simp only[show (0+1)%6=1 from rfl,show(1+1)%6=2 from rfl,show(2+1)%6=3 from rfl,show(3+1)%6=4 from rfl,show(4+1)%6=5 from rfl,show(5+1)%6=0 from rfl];have t0:=(q0 (f:=fun X Y=>(e.1-d.1)*(Y-o.2)-(e.2-d.2)*(X-o.1)+A) fun c=>(c6 c).1).trans s0;have t1:=(q0 (f:=fun X Y=>A-(d.1*(Y-o.2)-d.2*(X-o.1))) fun c=>(c6 c).2.1).trans s1;have t2:=(q0 (f:=fun X Y=>A-(e.1*(Y-o.2)-e.2*(X-o.1))) fun c=>(c6 c).2.2.1).trans s2;have t3:=(q0 (f:=fun X Y=>A-((e.1-d.1)*(Y-o.2)-(e.2-d.2)*(X-o.1))) fun c=>(c6 c).2.2.2.1).trans s3;have t4:=(q0 (f:=fun X Y=>d.1*(Y-o.2)-d.2*(X-o.1)+A) fun c=>(c6 c).2.2.2.2.1).trans s4;have t5:=(q0 (f:=fun X Y=>e.1*(Y-o.2)-e.2*(X-o.1)+A) fun c=>(c6 c).2.2.2.2.2).trans s5;rw[t0,t1,t2,t3,t4,t5];constructor
  ·rintro⟨k0,k1,k2,k3,k4,k5⟩ dx dy (⟨rfl,rfl⟩|⟨rfl,rfl⟩|⟨rfl,rfl⟩)
   ·exact⟨k1,k4⟩
   ·exact⟨k2,k5⟩
   ·exact⟨k3,k0⟩
  ·intro h
   have a0:=h _ _ (.inl ⟨rfl,rfl⟩);have a1:=h _ _ (.inr (.inl ⟨rfl,rfl⟩));have a2:=h _ _ (.inr (.inr ⟨rfl,rfl⟩));exact⟨a2.2,a0.1,a1.1,a2.1,a0.2,a1.2⟩
 rw[key];unfold InZ;constructor
 ·rintro⟨⟨x1,x2⟩,⟨y1,y2⟩,e⟩
  exact common hD (Rat.le_of_lt hD0) hxr hyr x1 x2 y1 y2 e
 ·rintro⟨X,Y,h1,h2,h3,h4,h⟩
  obtain⟨x1,x2,y1,y2,e⟩:=parts hD hD0 h1 h2 h3 h4 h;exact⟨⟨x1,x2⟩,⟨y1,y2⟩,e⟩
def fA(m:Nat)(z:E2)(X Y:Int):Int:=(d0E m).1*(Y-(cenE m z).2)-(d0E m).2*(X-(cenE m z).1)
def fB(m:Nat)(z:E2)(X Y:Int):Int:=(d1E m).1*(Y-(cenE m z).2)-(d1E m).2*(X-(cenE m z).1)
theorem inZ_int(m:Nat)(z:E2)(X Y:Int):InZ m z X Y↔(-aN m<=fA m z X Y/\fA m z X Y<=aN m)/\(-aN m<=fB m z X Y/\fB m z X Y<=aN m)/\(-aN m<=fB m z X Y-fA m z X Y/\fB m z X Y-fA m z X Y<=aN m):=by
 have e1:(fA m z X Y:Rat)=((d0E m).1:Rat)*((Y:Rat)-(cenE m z).2)-(d0E m).2*((X:Rat)-(cenE m z).1):=by unfold fA;push_cast;rfl
 have e2:(fB m z X Y:Rat)=((d1E m).1:Rat)*((Y:Rat)-(cenE m z).2)-(d1E m).2*((X:Rat)-(cenE m z).1):=by unfold fB;push_cast;rfl
 unfold InZ inH;rw[show (((d1E m).1:Rat)-(d0E m).1)*((Y:Rat)-(cenE m z).2)-(((d1E m).2:Rat)-(d0E m).2)*((X:Rat)-(cenE m z).1)=(fB m z X Y:Rat)-fA m z X Y by rw[e1,e2];grind];rw[<- e1, <-e2,ab_le,ab_le,ab_le];refine and_congr ?_ (and_congr ?_ ?_)
 ·exact_mod_cast Iff.rfl
 ·exact_mod_cast Iff.rfl
 ·exact_mod_cast Iff.rfl
def farZ(m:Nat)(z:E2)(X Y:Int):Int:=fA m z X Y*fA m z X Y-fA m z X Y*fB m z X Y+fB m z X Y*fB m z X Y
theorem farZ_nonneg(m:Nat)(z:E2)(X Y:Int):0<=farZ m z X Y:=by
 unfold farZ;generalize fA m z X Y=a;generalize fB m z X Y=b;have h1:0<=a*a:=by
  rcases Int.le_total 0 a with h|h
  ·exact Int.mul_nonneg h h
  ·exact Int.mul_nonneg_of_nonpos_of_nonpos h h
 have h2:0<=b*b:=by
  rcases Int.le_total 0 b with h|h
  ·exact Int.mul_nonneg h h
  ·exact Int.mul_nonneg_of_nonpos_of_nonpos h h
 have h3:0<=(a-b)*(a-b):=by
    rcases Int.le_total 0 (a-b)with h|h
    ·exact Int.mul_nonneg h h
    ·exact Int.mul_nonneg_of_nonpos_of_nonpos h h
 have h4:(a-b)*(a-b)=a*a-2*(a*b)+b*b:=by grind
 omega
theorem far_cast(m:Nat)(z:E2)(X Y:Int):(farZ m z X Y:Rat)=far (d0E m).1 (d0E m).2 (d1E m).1 (d1E m).2 (cenE m z).1 (cenE m z).2 X Y:=by
 unfold farZ far fA fB;push_cast;rfl
theorem cen_unit(m:Nat)(z:E2){k:Nat}(hk:k<6):((cenE m (addE z (unitE k))).1:Rat)=(cenE m z).1+(way (d0E m).1 (d0E m).2 (d1E m).1 (d1E m).2 k).1/\((cenE m (addE z (unitE k))).2:Rat)=(cenE m z).2+(way (d0E m).1 (d0E m).2 (d1E m).1 (d1E m).2 k).2:=by
 have hc:cenE m (addE z (unitE k))=addE (cenE m z) (spotE (mulE (bE m) (3*(unitE k).1,3*(unitE k).2))):=by
  unfold cenE midE spotE mulE addE;generalize bE m=b;ext <;> simp only <;> grind
 rw[hc];unfold d0E d1E spotE mulE addE;generalize bE m=b;generalize cenE m z=c;rcases(show k=0∨k=1∨k=2∨k=3∨k=4∨k=5 by omega)with rfl|rfl|rfl|rfl|rfl|rfl <;> simp only[unitE,way] <;> constructor <;> push_cast <;> grind
theorem inZ_near{x y:Int}{r:Nat}(hr:r<=12):InZ (12-r) (nearE x y r) ((3*x:Int):Rat) ((3*y:Int):Rat):=by
 rw[inZ_int];unfold nearE;generalize hm:12-r=m;have hm:m<=12:=by omega
 obtain⟨q0,q1,q2,q3,q4,q5,q6,q7,q8,q9,q10,q11,q12⟩:=bE_tab;obtain⟨s,t,h1,h2,h3⟩:=round_rest (v:=mulE (ptE x y) (conjE (bE m))) (d:=dN m) (by rcases upto12 hm with rfl|rfl|rfl|rfl|rfl|rfl|rfl|rfl|rfl|rfl|rfl|rfl|rfl <;> decide);generalize roundE (mulE (ptE x y) (conjE (bE m))) (dN m)=z at *;obtain⟨z1,z2⟩:=z;rcases upto12 hm with rfl|rfl|rfl|rfl|rfl|rfl|rfl|rfl|rfl|rfl|rfl|rfl|rfl <;>
  simp only[fA,fB,d0E,d1E,cenE,midE,spotE,aN,mulE,conjE,ptE,q0,q1,q2,q3,q4,q5,q6,q7,q8,q9,q10,q11,q12]at h1 h2 ⊢ <;> simp only[dN,Int.reducePow,Int.reduceMul]at h1 h2 h3 ⊢ <;> omega
theorem form_by{m:Nat}(hm:m<=12)(z w:E2)(X Y:Int):fA m (addE z w) X Y=fA m z X Y-aN m*(w.2-w.1)/\fB m (addE z w) X Y=fB m z X Y+aN m*(w.2+2*w.1):=by
 have hc:cenE m (addE z w)=addE (cenE m z) (spotE (mulE (bE m) (3*w.1,3*w.2))):=by
  unfold cenE midE spotE mulE addE;generalize bE m=b;ext <;> simp only <;> grind
 have h1:(d0E m).1*(spotE (mulE (bE m) (3*w.1,3*w.2))).2-(d0E m).2*(spotE (mulE (bE m) (3*w.1,3*w.2))).1=aN m*(w.2-w.1)/\(d1E m).1*(spotE (mulE (bE m) (3*w.1,3*w.2))).2-(d1E m).2*(spotE (mulE (bE m) (3*w.1,3*w.2))).1= -(aN m*(w.2+2*w.1)):=by
  obtain⟨q0,q1,q2,q3,q4,q5,q6,q7,q8,q9,q10,q11,q12⟩:=bE_tab;obtain⟨w1,w2⟩:=w;rcases upto12 hm with rfl|rfl|rfl|rfl|rfl|rfl|rfl|rfl|rfl|rfl|rfl|rfl|rfl <;>
   simp only[d0E,d1E,spotE,aN,mulE,q0,q1,q2,q3,q4,q5,q6,q7,q8,q9,q10,q11,q12,Int.reducePow,Int.reduceMul] <;> omega
 unfold fA fB;rw[hc];generalize spotE (mulE (bE m) (3*w.1,3*w.2))=s at *;unfold addE;simp only;constructor
 ·rw[<- h1.1];grind
 ·have:=h1.2;grind
theorem tie_next{m:Nat}(hm:m<=12){z z':E2}{X Y:Int}(h:InZ m z X Y)(h':InZ m z' X Y):z'=z∨∃k,k<6/\z'=addE z (unitE k):=by
 obtain⟨w,rfl⟩:∃w,z'=addE z w:=⟨subE z' z,by unfold addE subE;ext <;> simp only <;> omega⟩;rw[inZ_int]at h h';obtain⟨e1,e2⟩:=form_by hm z w X Y;rw[e1,e2]at h';have hp:=aN_pos m;generalize fA m z X Y=a at *;generalize fB m z X Y=b at *;generalize aN m=A at *;obtain⟨w1,w2⟩:=w;simp only at h';have two:∀x:Int,A*x<=2*A->x<=2:=fun x hx=>by
  rcases(show 2<x∨x<=2 by omega)with h9|h9
  ·have:=Int.mul_le_mul_of_nonneg_left (show 3<=x by omega) (Int.le_of_lt hp);omega
  ·exact h9
 have k1:=two (w2-w1) (by omega);have k2:=two (-(w2-w1)) (by rw[Int.mul_neg];omega);have k3:=two (w2+2*w1) (by omega);have k4:=two (-(w2+2*w1)) (by rw[Int.mul_neg];omega);have e3:A*(w2+2*w1)+A*(w2-w1)=A*(2*w2+w1):=by grind
 have k5:=two (2*w2+w1) (by omega);have k6:=two (-(2*w2+w1)) (by rw[Int.mul_neg];omega);rcases(show(w1=0/\w2=0)∨(w1=1/\w2=0)∨(w1=0/\w2=1)∨(w1= -1/\w2=1)∨(w1= -1/\w2=0)∨(w1=0/\w2= -1)∨(w1=1/\w2= -1) by omega)with⟨rfl,rfl⟩|⟨rfl,rfl⟩|⟨rfl,rfl⟩|⟨rfl,rfl⟩|⟨rfl,rfl⟩|⟨rfl,rfl⟩|⟨rfl,rfl⟩
 ·left;unfold addE;ext <;> simp
 ·exact .inr ⟨0,by decide,rfl⟩
 ·exact .inr ⟨1,by decide,rfl⟩
 ·exact .inr ⟨2,by decide,rfl⟩
 ·exact .inr ⟨3,by decide,rfl⟩
 ·exact .inr ⟨4,by decide,rfl⟩
 ·exact .inr ⟨5,by decide,rfl⟩
theorem back_unit(z:E2){k:Nat}(hk:k<6):∃j,j<6/\addE (addE z (unitE k)) (unitE j)=z:=by
 rcases(show k=0∨k=1∨k=2∨k=3∨k=4∨k=5 by omega)with rfl|rfl|rfl|rfl|rfl|rfl
 ·exact⟨3,by decide,by unfold addE;ext <;> simp only[unitE] <;> omega⟩
 ·exact⟨4,by decide,by unfold addE;ext <;> simp only[unitE] <;> omega⟩
 ·exact⟨5,by decide,by unfold addE;ext <;> simp only[unitE] <;> omega⟩
 ·exact⟨0,by decide,by unfold addE;ext <;> simp only[unitE] <;> omega⟩
 ·exact⟨1,by decide,by unfold addE;ext <;> simp only[unitE] <;> omega⟩
 ·exact⟨2,by decide,by unfold addE;ext <;> simp only[unitE] <;> omega⟩
theorem flood_all{m:Nat}(hm:m<=12){lo hi z0:E2}(hx:lo.1<=hi.1)(hy:lo.2<=hi.2)(h0:InZ m z0 lo.1 lo.2)(F:E2->Prop)(hF:F z0)
  (hcl:∀z,F z->TouchP (hexC m z) lo hi->∀k,k<6->TouchP (hexC m (addE z (unitE k))) lo hi->F (addE z (unitE k))):∀z,TouchP (hexC m z) lo hi->F z:=by
 have hD:(aN m:Rat)=((d0E m).1:Rat)*(d1E m).2-(d0E m).2*(d1E m).1:=by have:=det_d hm;exact_mod_cast this.symm
 have hD0:(0:Rat)<aN m:=by exact_mod_cast aN_pos m
 have hxr:(lo.1:Rat)<=hi.1:=by exact_mod_cast hx
 have hyr:(lo.2:Rat)<=hi.2:=by exact_mod_cast hy
 have ht0:TouchP (hexC m z0) lo hi:=(touch_iff hm z0 lo hi hx hy).2 ⟨lo.1,lo.2,Rat.le_refl,hxr,Rat.le_refl,hyr,h0⟩;have main:∀(n:Nat) (z:E2),(farZ m z lo.1 lo.2).toNat<=n->TouchP (hexC m z) lo hi->F z:=by
  intro n
  induction n with
  |zero=>
   intro z hn ht;obtain⟨X,Y,g1,g2,g3,g4,hin⟩:=(touch_iff hm z lo hi hx hy).1 ht;by_cases hL:InZ m z lo.1 lo.2
   ·rcases tie_next hm h0 hL with rfl|⟨k,hk,rfl⟩
    ·exact hF
    ·exact hcl z0 hF ht0 k hk ht
   ·obtain⟨k,hk,-,hfar⟩:=descent hD hD0 hin hL
    obtain⟨c1,c2⟩:=cen_unit m z hk;rw[<- c1, <-c2, <-far_cast, <-far_cast]at hfar;have hfar:farZ m (addE z (unitE k)) lo.1 lo.2<farZ m z lo.1 lo.2:=by exact_mod_cast hfar
    have:=farZ_nonneg m (addE z (unitE k)) lo.1 lo.2;omega
  |succ n ih=>
   intro z hn ht;obtain⟨X,Y,g1,g2,g3,g4,hin⟩:=(touch_iff hm z lo hi hx hy).1 ht;by_cases hL:InZ m z lo.1 lo.2
   ·rcases tie_next hm h0 hL with rfl|⟨k,hk,rfl⟩
    ·exact hF
    ·exact hcl z0 hF ht0 k hk ht
   ·obtain⟨k,hk,⟨t,t0,t1,hin2⟩,hfar⟩:=descent hD hD0 hin hL
    obtain⟨c1,c2⟩:=cen_unit m z hk;rw[<- c1, <-c2]at hin2;rw[<- c1, <-c2, <-far_cast, <-far_cast]at hfar;have hfar:farZ m (addE z (unitE k)) lo.1 lo.2<farZ m z lo.1 lo.2:=by exact_mod_cast hfar
    have hnn:=farZ_nonneg m (addE z (unitE k)) lo.1 lo.2;have q1:=Rat.mul_nonneg t0 (show(0:Rat)<=X-lo.1 by clear ih hcl hD;grind);have q2:=Rat.mul_nonneg (show 0<=1-t by clear ih hcl hD;grind) (show(0:Rat)<=X-lo.1 by clear ih hcl hD;grind);have q3:=Rat.mul_nonneg t0 (show(0:Rat)<=Y-lo.2 by clear ih hcl hD;grind);have q4:=Rat.mul_nonneg (show 0<=1-t by clear ih hcl hD;grind) (show(0:Rat)<=Y-lo.2 by clear ih hcl hD;grind);have ht2:TouchP (hexC m (addE z (unitE k))) lo hi:=(touch_iff hm _ lo hi hx hy).2 ⟨X+t*(lo.1-X),Y+t*(lo.2-Y),by clear ih hcl hD hin2;grind,by clear ih hcl hD hin2;grind,by clear ih hcl hD hin2;grind,by clear ih hcl hD hin2;grind,hin2⟩;have hF2:=ih (addE z (unitE k)) (by omega) ht2;obtain⟨j,hj,hb⟩:=back_unit z hk;have:=hcl _ hF2 ht2 j hj (by rw[hb];exact ht);rw[hb]at this;exact this
 exact fun z=>main _ z lr
end
end Go.Proofs.YtpkoapmpknbgoaaGreat.Wd
namespace Go.Proofs.YtpkoapmpknbgoaaGreat
section
open Go.RowKit Go.Lib Wd
theorem emul_in(y z:E2)(hy:Sm 1152921504606846976 y)(hz:Sm 1152921504606846976 z)(h:Sm 4611686018427387904 (mulE y z))(w:World):
  Calls Tryz.prog 71 #[vE y,vE z] w fun e w'=>e=.returned (.tuple #[vE (mulE y z),.bool true])/\Below w.heap.size w w':=by
 obtain⟨a,b⟩:=y;obtain⟨c,d⟩:=z;unfold Sm at hy hz;unfold Sm mulE at h;simp only at hy hz h;exact mul_in a b c d ⟨hy.1,hy.2.1⟩ ⟨hy.2.2.1,hy.2.2.2⟩ ⟨hz.1,hz.2.1⟩ ⟨hz.2.2.1,hz.2.2.2⟩ ⟨h.1,h.2.1⟩ ⟨h.2.2.1,h.2.2.2⟩ w
theorem beta_in(n:Nat)(hn:n<=12)(w:World):
  Calls Tryz.prog 117 #[.int .i64 n] w fun e w'=>e=.returned (.tuple #[vE (bE n),.bool true])/\Below w.heap.size w w':=by
 have q1:decide ((n:Int)<0)=false:=decide_eq_false (by omega);have q2:decide (20<(n:Int))=false:=decide_eq_false (by omega)
 go_enter Tryz.func117,Tryz.ntmps117
 go_wp2;have T0:Hid (Two2 ((w.alloc (.cells #[.int .i64 0,.int .i64 0] 37)).alloc (.cells #[.int .i64 1,.int .i64 0] 37)) w.heap.size (.int .i64 0) (.int .i64 0)):=Two2.of_row (t:=37) (by rw[Below.heap_alloc _ _ _ (by simp)];exact heap_new _ _ _ rfl);have C0:Hid (Two2 ((w.alloc (.cells #[.int .i64 0,.int .i64 0] 37)).alloc (.cells #[.int .i64 1,.int .i64 0] 37)) (w.heap.size+1) (.int .i64 1) (.int .i64 0)):=Two2.of_row (t:=37) (heap_new _ _ _ (by simp));have HB0:Hid (Below w.heap.size w ((w.alloc (.cells #[.int .i64 0,.int .i64 0] 37)).alloc (.cells #[.int .i64 1,.int .i64 0] 37))):=(br.alloc lr _).alloc (by simp) _;have k2:((w.alloc (.cells #[.int .i64 0,.int .i64 0] 37)).alloc (.cells #[.int .i64 1,.int .i64 0] 37)).heap.size=w.heap.size+2:=by simp
 generalize(w.alloc (.cells #[.int .i64 0,.int .i64 0] 37)).alloc (.cells #[.int .i64 1,.int .i64 0] 37)=w2 at *;clear q1 q2
 go_loopw [15] (fun i wr=>∃k:Nat,k<=n/\i=.int .i64 k/\Hid (Two2 wr (w.heap.size+1) (.int .i64 (bE k).1) (.int .i64 (bE k).2)/\Turn (fun q=>q=w.heap.size+1) w2 wr)) (fun i _=>n-(intOf i).toNat)
 case atStart=>exact⟨0,by omega,rfl,C0.out,Turn.refl _ _⟩
 case round=>
  obtain⟨k,hk,rfl,HI⟩:=hrel;have hTri:=HI.out.1;have hturn:=HI.out.2;have hsz:=hturn.2.2.2.1;have HT:=Hd (T0.out.turn hturn (by omega) (by omega));have HBR:Hid (Below w.heap.size w wr):=HB0.out.trans (hturn.below (by omega) fun q hq e=>by omega);have HTU:=Hd hturn;have HTR:=Hd hTri;clear hTri hturn HI;by_cases hkn:k<n
  ·have q1:decide ((k:Int)<(n:Int))=true:=decide_eq_true (by omega)
   have hb1:=bE_sm (show k<=12 by omega);have HMU:=Hd (emul_in (bE k) (2,1) (hb1.mono (by decide)) (by unfold Sm;simp) (by unfold Sm at hb1;unfold Sm mulE;simp only;omega));have HDN:Hid (bE (k+1)=mulE (bE k) (2,1)):=rfl;obtain⟨x,hx⟩:∃x,bE k=x:=⟨_,rfl⟩;rw[hx]at HMU HTR HDN;generalize mulE x (2,1)=m at *;simp only[vE]at HMU;obtain⟨⟨c0,c1⟩,c2,c3⟩:=HTR.out;clear hb1 hx
   go_wp2_with fail
   refine(HMU.out _).mono ?_;rintro e w5 ⟨rfl,hb5⟩;have hz5:=hb5.size;have h5:=HTR.out.later (by omega) hb5;have HP:=Hd (h5.put (.int .i64 m.1) (.int .i64 m.2));have HFI:Hid (Two2 ((w5.setCell ⟨w.heap.size+1,0,none⟩ (.int .i64 m.1)).setCell ⟨w.heap.size+1,1,none⟩ (.int .i64 m.2)) (w.heap.size+1) (.int .i64 (bE (k+1)).1) (.int .i64 (bE (k+1)).2)/\Turn (fun q=>q=w.heap.size+1) w2 ((w5.setCell ⟨w.heap.size+1,0,none⟩ (.int .i64 m.1)).setCell ⟨w.heap.size+1,1,none⟩ (.int .i64 m.2))):=⟨by rw[HDN.out];exact HP.out.1,(HTU.out.trans (Turn.of_below hb5) fun _ _ h=>h).trans HP.out.2 fun _ _ h=>h⟩;obtain⟨⟨e0,e1⟩,e2,e3⟩:=h5;clear hb5 c0 c1 c2 c3 HTR HT HTU HMU HBR HP HDN;go_wp2
   go_roundw
   case rel=>exact⟨k+1,by omega,by go_num,HFI.out⟩
   case measure=>simp[intOf];omega
  ·obtain rfl:k=n:=by omega
   have q1:decide ((k:Int)<(k:Int))=false:=decide_eq_false (by omega);obtain⟨x,hx⟩:∃x,bE k=x:=⟨_,rfl⟩;rw[hx]at HTR;obtain⟨⟨c0,c1⟩,c2,c3⟩:=HTR.out;obtain⟨⟨t0,t1⟩,t2,t3⟩:=HT.out;have HX:=Hd hx;clear HTR HT hx;go_wp2;exact bodyPost_ret (v:=.tuple #[.agg #[.int .i64 x.1,.int .i64 x.2],.bool true]) (by simp[results,Tryz.results117,go_sem, *]) rfl ⟨by rw[HX.out],(HBR.out.setCell (p:=⟨w.heap.size,0,none⟩) lr _).setCell (p:=⟨w.heap.size,1,none⟩) lr _⟩
def worldB(x y:Int):Bool:=decide (0<=x)&&decide (x<1073741824)&&(decide (0<=y)&&decide (y<1073741824))
theorem worldB_iff(x y:Int):worldB x y=true↔(0<=x/\x<1073741824)/\0<=y/\y<1073741824:=by unfold worldB;simp
theorem pok_any(x y:Int)(w:World):Calls Tryz.prog 98 #[.int .i64 x,.int .i64 y] w fun e w'=>e=.returned (.bool (worldB x y))/\w'=w:=by
 have HF:Hid (worldB x y=(decide (0<=x)&&decide (x<1073741824)&&(decide (0<=y)&&decide (y<1073741824)))):=rfl;obtain⟨b,hb⟩:∃b,worldB x y=b:=⟨_,rfl⟩;rw[hb]at HF ⊢;clear hb;obtain⟨b0,h0⟩:∃b,decide (0<=x)=b:=⟨_,rfl⟩;obtain⟨b1,h1⟩:∃b,decide (x<1073741824)=b:=⟨_,rfl⟩;obtain⟨b2,h2⟩:∃b,decide (0<=y)=b:=⟨_,rfl⟩;obtain⟨b3,h3⟩:∃b,decide (y<1073741824)=b:=⟨_,rfl⟩;rw[h0,h1,h2,h3]at HF;cases b0 <;> cases b1 <;> cases b2 <;> cases b3
 all_goals
  go_enter Tryz.func98,Tryz.ntmps98
  go_wp2;go_ret;exact⟨ret_bool (by rw[HF.out];rfl),rfl⟩
theorem isres_in(r:Nat)(hr:r<=12)(w:World):Calls Tryz.prog 115 #[.int .i64 r] w fun e w'=>e=.returned (.bool true)/\w'=w:=by
 have q1:decide ((0:Int)<=(r:Int))=true:=decide_eq_true (by omega);have q2:decide ((r:Int)<=12)=true:=decide_eq_true (by omega)
 go_enter Tryz.func115,Tryz.ntmps115
 go_wp2;go_ret;exact⟨rfl,rfl⟩
theorem axial_in(x y:Int)(h:worldB x y=true)(w:World):
  Calls Tryz.prog 142 #[.int .i64 x,.int .i64 y] w fun e w'=>e=.returned (.tuple #[vE (ptE x y),.bool true])/\Below w.heap.size w w':=by
 have HP:=Hd (pok_any x y);rw[h]at HP;obtain⟨⟨h1,h2⟩,h3,h4⟩:=(worldB_iff x y).1 h;have hpt:ptE x y=(45*x-26*y,52*y):=rfl;rw[hpt];clear h hpt
 go_enter Tryz.func142,Tryz.ntmps142
 go_wp2_with fail
 refine(HP.out _).mono ?_;rintro e w1 ⟨rfl,rfl⟩;go_wp2;exact bodyPost_ret (v:=.tuple #[.agg #[.int .i64 (45*x-26*y),.int .i64 (52*y)],.bool true]) (by simp[results,Tryz.results142,go_sem, *]) rfl ⟨rfl,(Below.refl w.heap.size w).alloc lr _⟩
theorem spot_in(c:E2)(h:Sm 10000000000000000 c)(w:World):
  Calls Tryz.prog 73 #[vE c] w fun e w'=>e=.returned (vE (spotE c))/\Below w.heap.size w w':=by
 obtain⟨a,b⟩:=c;unfold Sm at h;simp only at h;obtain⟨h1,h2,h3,h4⟩:=h;show Calls Tryz.prog 73 #[.agg #[.int .i64 a,.int .i64 b]] w fun e w'=>e=.returned (.agg #[.int .i64 (52*a+26*b),.int .i64 (45*b)])/\Below w.heap.size w w'
 go_enter Tryz.func73,Tryz.ntmps73
 go_wp2;exact bodyPost_ret (v:=.agg #[.int .i64 (52*a+26*b),.int .i64 (45*b)]) (by simp[results,Tryz.results73,go_sem, *]) rfl ⟨rfl,((Below.refl w.heap.size w).alloc lr _).alloc (by simp) _⟩
theorem near_in(x y:Int)(h:worldB x y=true)(r:Nat)(hr:r<=12)(w:World):
  Calls Tryz.prog 101 #[.int .i64 x,.int .i64 y,.int .i64 r] w fun e w'=>e=.returned (.tuple #[vE (nearE x y r),.bool true])/\Below w.heap.size w w':=by
 have HAX:=Hd (axial_in x y h);have HIR:=Hd (isres_in r hr);obtain⟨hx,hy⟩:=(worldB_iff x y).1 h;have hm:(12:Int)-(r:Int)=((12-r:Nat):Int):=by omega
 have hm12:12-r<=12:=by omega
 have HN:Hid (nearE x y r=roundE (mulE (ptE x y) (conjE (bE (12-r)))) (dN (12-r))):=rfl;have hms:=near_mul_sm hx hy hm12;have HBE:=Hd (beta_in (12-r) hm12);have HCO:=Hd (conj_in (bE (12-r)) ((bE_sm hm12).mono (by decide)));have HMU:=Hd (emul_in (ptE x y) (conjE (bE (12-r))) (by unfold Sm ptE;simp only;omega) ((conj_sm hm12).mono (by decide)) (hms.mono (by decide)));have HPW:=Hd (npow_seven (k:=12-r) hm12);obtain⟨hp1,hp2⟩:=pow7_in hm12;have HRO:=Hd (round_in (mulE (ptE x y) (conjE (bE (12-r)))) (dN (12-r)) (by unfold dN;omega) (by unfold dN;omega) hms);rw[<- HN.out]at HRO;have hdn:dN (12-r)=2340*7 ^ (12-r):=rfl;rw[hdn]at HRO;rw[show (((7 ^ (12-r):Nat)):Int)=(7:Int) ^ (12-r) by push_cast;rfl]at HPW;rw[show Value.agg #[.int .i64 ((bE (12-r)).1+(bE (12-r)).2),.int .i64 (-(bE (12-r)).2)]=vE (conjE (bE (12-r)))from rfl]at HCO;clear HN hdn hms h hx hy;generalize(7:Int) ^ (12-r)=s at *;generalize nearE x y r=z at *;generalize 12-r=m at *;generalize mulE (ptE x y) (conjE (bE m))=u at *;generalize conjE (bE m)=c at *;generalize bE m=b at *;generalize ptE x y=p at *;simp only[vE]at*
 go_enter Tryz.func101,Tryz.ntmps101
 go_wp2_with fail
 refine(HAX.out _).mono ?_;rintro e w1 ⟨rfl,hb1⟩;have hs1:=hb1.size;simp at hs1;have H1:Hid (Two2 w1 w.heap.size (.int .i64 0) (.int .i64 0)):=(Two2.of_row (t:=37) (heap_new _ _ _ rfl)).later (by simp) hb1;have B1:Hid (Below w.heap.size w (w1.alloc (.cells #[.int .i64 p.1,.int .i64 p.2] 37))):=(((Below.refl w.heap.size w).alloc lr _).trans (hb1.mono (by simp))).alloc (by omega) _;have P1:Hid (Two (w1.alloc (.cells #[.int .i64 p.1,.int .i64 p.2] 37)) w1.heap.size (.int .i64 p.1) (.int .i64 p.2)):=Two.of_row (t:=37) (f:=_) (heap_new _ _ _ rfl);have H1:=Hd (H1.out.later (by omega) (br.alloc lr (.cells #[.int .i64 p.1,.int .i64 p.2] 37)));have hs2:w1.heap.size<(w1.alloc (.cells #[.int .i64 p.1,.int .i64 p.2] 37)).heap.size:=by simp
 clear hb1
 go_upto_region 2 with(fail)
 generalize w1.alloc (.cells #[.int .i64 p.1,.int .i64 p.2] 37)=w2 at*
 go_wp2_with fail
 refine(HIR.out _).mono ?_;rintro e wq ⟨rfl,rfl⟩
 go_wp2_with fail
 refine(HBE.out _).mono ?_;rintro e w3 ⟨rfl,hb3⟩;have K3:=hb3.alloc hb3.size (.cells #[.int .i64 b.1,.int .i64 b.2] 37);have H3:=Hd (H1.out.later (by omega) K3);have P3:=Hd (P1.out.later hs2 K3);have B3:Hid (Below w.heap.size w (w3.alloc (.cells #[.int .i64 b.1,.int .i64 b.2] 37))):=B1.out.trans (K3.mono B1.out.size);have T3:Hid (Two (w3.alloc (.cells #[.int .i64 b.1,.int .i64 b.2] 37)) w3.heap.size (.int .i64 b.1) (.int .i64 b.2)):=Two.of_row (t:=37) (f:=_) (heap_new _ _ _ rfl);have hs3:w1.heap.size<w3.heap.size/\w3.heap.size<(w3.alloc (.cells #[.int .i64 b.1,.int .i64 b.2] 37)).heap.size:=⟨by have:=hb3.size;omega,by simp⟩;clear hb3 K3 H1 P1 B1
 go_upto_region 5 with(fail)
 generalize w3.alloc (.cells #[.int .i64 b.1,.int .i64 b.2] 37)=w4 at *;obtain⟨t0,t1⟩:=T3.out
 go_wp2_with fail
 refine(HCO.out _).mono ?_;rintro e w5 ⟨rfl,hb5⟩;have K5:=hb5.alloc hb5.size (.cells #[.int .i64 c.1,.int .i64 c.2] 37);have H5:=Hd (H3.out.later (by omega) K5);have P5:=Hd (P3.out.later (by omega) K5);have B5:Hid (Below w.heap.size w (w5.alloc (.cells #[.int .i64 c.1,.int .i64 c.2] 37))):=B3.out.trans (K5.mono B3.out.size);have T5:Hid (Two (w5.alloc (.cells #[.int .i64 c.1,.int .i64 c.2] 37)) w5.heap.size (.int .i64 c.1) (.int .i64 c.2)):=Two.of_row (t:=37) (f:=_) (heap_new _ _ _ rfl);have hs5:w1.heap.size<w5.heap.size/\w5.heap.size<(w5.alloc (.cells #[.int .i64 c.1,.int .i64 c.2] 37)).heap.size:=⟨by have:=hb5.size;omega,by simp⟩;clear hb5 K5 H3 P3 B3 T3 t0 t1
 go_upto_region 6 with(fail)
 generalize w5.alloc (.cells #[.int .i64 c.1,.int .i64 c.2] 37)=w6 at*
 go_wp2_with fail
 refine(HPW.out _).mono ?_;rintro e w7 ⟨rfl,hb7⟩;have H7:=Hd (H5.out.later (by omega) hb7);have B7:=Hd (B5.out.trans (hb7.mono B5.out.size));obtain⟨p0,p1⟩:=P5.out.later (by omega) hb7;obtain⟨c0,c1⟩:=T5.out.later (by omega) hb7;have hs7:=hb7.size;clear hb7 H5 P5 B5 T5
 go_wp2_with fail
 refine(HMU.out _).mono ?_;rintro e w8 ⟨rfl,hb8⟩;have K8:=hb8.alloc hb8.size (.cells #[.int .i64 u.1,.int .i64 u.2] 37);have H8:=Hd (H7.out.later (by omega) K8);have B8:Hid (Below w.heap.size w (w8.alloc (.cells #[.int .i64 u.1,.int .i64 u.2] 37))):=B7.out.trans (K8.mono B7.out.size);have T8:Hid (Two (w8.alloc (.cells #[.int .i64 u.1,.int .i64 u.2] 37)) w8.heap.size (.int .i64 u.1) (.int .i64 u.2)):=Two.of_row (t:=37) (f:=_) (heap_new _ _ _ rfl);have hs8:w.heap.size<w8.heap.size/\w8.heap.size<(w8.alloc (.cells #[.int .i64 u.1,.int .i64 u.2] 37)).heap.size:=⟨by have:=hb8.size;omega,by simp⟩;clear hb8 K8 H7 B7 p0 p1 c0 c1
 go_upto_region 8 with(fail)
 generalize w8.alloc (.cells #[.int .i64 u.1,.int .i64 u.2] 37)=w9 at *;obtain⟨t0,t1⟩:=T8.out
 go_wp2_with fail
 refine(HRO.out _).mono ?_;rintro e w10 ⟨rfl,hb10⟩;obtain⟨⟨r0,r1⟩,f0,f1⟩:=H8.out.later (by omega) hb10;have B10:=Hd (B8.out.trans (hb10.mono B8.out.size));have hs10:=hb10.size;clear hb10 H8 B8 T8 t0 t1;go_wp2;exact bodyPost_ret (v:=.tuple #[.agg #[.int .i64 z.1,.int .i64 z.2],.bool true]) (by simp[results,Tryz.results101,go_sem, *]) rfl ⟨rfl,(B10.out.setCell (p:=⟨w.heap.size,0,none⟩) lr _).setCell (p:=⟨w.heap.size,1,none⟩) lr _⟩
theorem cof_in(x y:Int)(h:worldB x y=true)(r:Nat)(hr:r<=12)(w:World):
  Calls Tryz.prog 62 #[.int .i64 x,.int .i64 y,.int .i64 r] w fun e w'=>e=.returned (.tuple #[vC r (nearE x y r),.int .i64 0])/\Below w.heap.size w w':=by
 have HP:=Hd (pok_any x y);rw[h]at HP;have HN:=Hd (near_in x y h r hr);generalize nearE x y r=z at *;simp only[vE,vC]at *;clear h
 go_enter Tryz.func62,Tryz.ntmps62
 go_wp2_with fail
 refine(HP.out _).mono ?_;rintro e w1 ⟨rfl,rfl⟩
 go_wp2_with fail
 refine(HN.out _).mono ?_;rintro e w3 ⟨rfl,hb3⟩;have hs3:=hb3.size;simp at hs3;have K3:=hb3.alloc hb3.size (.cells #[.int .i64 z.1,.int .i64 z.2] 37);have H3:Hid (Tri (w3.alloc (.cells #[.int .i64 z.1,.int .i64 z.2] 37)) w.heap.size 0 (0,0)):=(show Tri (w.alloc (.cells #[.int .i64 0,.int .i64 0,.int .i64 0] 39)) w.heap.size 0 (0,0)from heap_new _ _ _ rfl).later K3;have B3:Hid (Below w.heap.size w (w3.alloc (.cells #[.int .i64 z.1,.int .i64 z.2] 37))):=((Below.refl w.heap.size w).alloc lr _).trans (K3.mono (by simp));have T3:Hid (Two (w3.alloc (.cells #[.int .i64 z.1,.int .i64 z.2] 37)) w3.heap.size (.int .i64 z.1) (.int .i64 z.2)):=Two.of_row (t:=37) (f:=_) (heap_new _ _ _ rfl);have hs4:w3.heap.size<(w3.alloc (.cells #[.int .i64 z.1,.int .i64 z.2] 37)).heap.size:=by simp
 clear hb3 K3
 go_upto_region 4 with(fail)
 generalize w3.alloc (.cells #[.int .i64 z.1,.int .i64 z.2] 37)=w4 at *;obtain⟨t0,t1⟩:=T3.out;obtain⟨r0,r1,r2,f0,f1,f2,l0⟩:=H3.out.cells;clear T3 H3;go_wp2;exact bodyPost_ret (v:=.tuple #[.agg #[.int .i64 r,.int .i64 z.1,.int .i64 z.2],.int .i64 0]) (by simp[results,Tryz.results62,go_sem, *]) rfl ⟨rfl,((B3.out.setCell (p:=⟨w.heap.size,0,none⟩) lr _).setCell (p:=⟨w.heap.size,1,none⟩) lr _).setCell (p:=⟨w.heap.size,2,none⟩) lr _⟩
def prV(l:List E2):List Value:=l.flatMap fun p=>[.int .i64 p.1,.int .i64 p.2]
def prG(l:List E2)(k:Nat):E2:=l.getD k (0,0)
theorem prV_length(l:List E2):(prV l).length=l.length*2:=by
 induction l with
 |nil=>rfl
 |cons p l ih=>simp only[prV,List.flatMap_cons,List.length_append,List.length_cons,List.length_nil]at *;omega
theorem prV_append(a b:List E2):prV (a++b)=prV a++prV b:=by simp[prV]
theorem prV_snoc(l:List E2)(x:E2):prV (l++[x])=prV l++[.int .i64 x.1,.int .i64 x.2]:=by rw[prV_append];rfl
theorem prV_get:∀(l:List E2) (k:Nat),k<l.length->(prV l)[k*2]? =some (.int .i64 (prG l k).1)/\(prV l)[k*2+1]? =some (.int .i64 (prG l k).2)
 |[],k,h=>by simp at h
 |p::l,0,_=>by simp[prV,prG]
 |p::l,k+1,h=>by
  have ih:=prV_get l k (by simpa using h);have e:prV (p::l)=[.int .i64 p.1,.int .i64 p.2]++prV l:=rfl;have g:prG (p::l) (k+1)=prG l k:=rfl;rw[e,g,List.getElem?_append_right (by simp;omega),List.getElem?_append_right (by simp;omega)];simp only[List.length_cons,List.length_nil];rw[show (k+1)*2-(0+1+1)=k*2 by omega,show(k+1)*2+1-(0+1+1)=k*2+1 by omega];exact ih
def PrAt(w:World)(ao:Option Addr)(l:List E2):Prop:=
 0<l.length->∃b off,ao=some ⟨b,off,none⟩/\b<w.heap.size/\∀k,k<l.length->
  w.cell? ⟨b,off+k*2,none⟩=some (.int .i64 (prG l k).1)/\w.cell? ⟨b,off+k*2+1,none⟩=some (.int .i64 (prG l k).2)
theorem PrAt.below{w w':World}{ao:Option Addr}{l:List E2}(h:PrAt w ao l)(hb:Below w.heap.size w w'):PrAt w' ao l:=fun h0=>by
 obtain⟨b,off,e,hlt,hc⟩:=h h0;refine⟨b,off,e,Nat.lt_of_lt_of_le hlt hb.size,fun k hk=>?_⟩;rw[hb.cell (p:=⟨b,_,none⟩) hlt,hb.cell (p:=⟨b,_,none⟩) hlt];exact hc k hk
theorem prAt_own{w:World}{base n c:Nat}{t:TypeId}{ao:Option Addr}{l:List E2}(hn:n=l.length)(h:w.ownsRow base t 2 (.slice ao n c) n (prV l)):PrAt w ao l:=fun h0=>by
 subst hn;obtain⟨ao',c',e,_,hh⟩:=own_form h;cases e;obtain⟨g,rfl,_,hlt,hc⟩:=hh h0;exact⟨g,0,rfl,hlt,fun i hi=>by
  have:=prV_get l i hi;rw[Nat.zero_add];exact⟨hc _ _ this.1,hc _ _ this.2⟩⟩
theorem prAt_new(w:World)(l:List E2)(t:TypeId):PrAt (w.alloc (.cells (prV l).toArray t)) (some ⟨w.heap.size,0,none⟩) l:=fun h0=>by
 refine⟨w.heap.size,0,rfl,by simp,fun k hk=>?_⟩;have h:=prV_get l k hk;rw[Nat.zero_add];constructor
 ·rw[cell_of_row _ w.heap.size (k*2) _ t (0,0) (heap_new w _ _ rfl)];simpa using h.1
 ·rw[cell_of_row _ w.heap.size (k*2+1) _ t (0,0) (heap_new w _ _ rfl)];simpa using h.2
theorem info_pt:(Tryz.prog.info? 26).map (fun i=>(i.zero,i.size,i.bytes))=some (some (.agg #[.int .i64 0,.int .i64 0]),2,16):=by kernel_rfl
theorem mid_sm{m:Nat}(hm:m<=12){y:E2}(hy:Sm 3221225472 y):Sm 1000000000000000 (mulE (bE m) y):=by
 obtain⟨q0,q1,q2,q3,q4,q5,q6,q7,q8,q9,q10,q11,q12⟩:=bE_tab;obtain⟨y1,y2⟩:=y;unfold Sm at hy ⊢;unfold mulE;rcases upto12 hm with rfl|rfl|rfl|rfl|rfl|rfl|rfl|rfl|rfl|rfl|rfl|rfl|rfl <;> simp only[q0,q1,q2,q3,q4,q5,q6,q7,q8,q9,q10,q11,q12]at hy ⊢ <;> omega
theorem place_in(z:E2)(hz:Sm 1073741824 z)(r:Nat)(hr:r<=12)(by_:Int)(hby:by_=1∨by_=3)(w:World):
  Calls Tryz.prog 72 #[vE z,.int .i64 r,.int .i64 by_] w fun e w'=>e=.returned (.tuple #[vE (mulE (bE (12-r)) (by_*z.1,by_*z.2)),.bool true])/\Below w.heap.size w w':=by
 have HIR:=Hd (isres_in r hr);have hm:(12:Int)-(r:Int)=((12-r:Nat):Int):=by omega
 have hm12:12-r<=12:=by omega
 have HBE:=Hd (beta_in (12-r) hm12);have HW1:=Hd (within_any z.1 1073741824 (by decide) (by decide));have HW2:=Hd (within_any z.2 1073741824 (by decide) (by decide));unfold Sm at hz;rw[decide_eq_true (show -1073741824<=z.1 by omega),decide_eq_true (show z.1<=1073741824 by omega),Bool.and_self]at HW1;rw[decide_eq_true (show -1073741824<=z.2 by omega),decide_eq_true (show z.2<=1073741824 by omega),Bool.and_self]at HW2;have hy:Sm 3221225472 (by_*z.1,by_*z.2):=by unfold Sm;simp only;rcases hby with rfl|rfl <;> omega
 have HMU:=Hd (emul_in (bE (12-r)) (by_*z.1,by_*z.2) ((bE_sm hm12).mono (by decide)) (hy.mono (by decide)) ((mid_sm hm12 hy).mono (by decide)));generalize mulE (bE (12-r)) (by_*z.1,by_*z.2)=u at *;generalize bE (12-r)=b at *;generalize 12-r=m at *;obtain⟨z1,z2⟩:=z;obtain⟨b1,b2⟩:=b;simp only[vE]at *;obtain⟨h1,h2,h3,h4⟩:=hz;have k1: -3221225472<=by_*z1/\by_*z1<=3221225472/\ -3221225472<=by_*z2/\by_*z2<=3221225472:=by rcases hby with rfl|rfl <;> omega
 obtain⟨k1,k2,k3,k4⟩:=k1;have T0:Hid (Two ((w.alloc (.cells #[.int .i64 z1,.int .i64 z2] 37)).alloc (.cells #[.int .i64 0,.int .i64 0] 37)) w.heap.size (.int .i64 z1) (.int .i64 z2)):=(Two.of_row (t:=37) (f:=_) (heap_new _ _ _ rfl)).later (by simp) (br.alloc lr _);have R0:Hid (Two2 ((w.alloc (.cells #[.int .i64 z1,.int .i64 z2] 37)).alloc (.cells #[.int .i64 0,.int .i64 0] 37)) (w.heap.size+1) (.int .i64 0) (.int .i64 0)):=Two2.of_row (t:=37) (heap_new _ _ _ (by simp));have B0:Hid (Below w.heap.size w ((w.alloc (.cells #[.int .i64 z1,.int .i64 z2] 37)).alloc (.cells #[.int .i64 0,.int .i64 0] 37))):=(br.alloc lr _).alloc (by simp) _;have s0:w.heap.size+2<=((w.alloc (.cells #[.int .i64 z1,.int .i64 z2] 37)).alloc (.cells #[.int .i64 0,.int .i64 0] 37)).heap.size:=by simp
 clear hby hy
 go_enter Tryz.func72,Tryz.ntmps72
 go_upto_region 1 with(fail)
 generalize(w.alloc (.cells #[.int .i64 z1,.int .i64 z2] 37)).alloc (.cells #[.int .i64 0,.int .i64 0] 37)=w1 at *;obtain⟨t0,t1⟩:=T0.out
 go_wp2_with fail
 refine(HIR.out _).mono ?_;rintro e wq ⟨rfl,rfl⟩
 go_wp2_with fail
 refine(HW1.out _).mono ?_;rintro e wq ⟨rfl,rfl⟩
 go_wp2_with fail
 refine(HW2.out _).mono ?_;rintro e wq ⟨rfl,rfl⟩
 go_wp2_with fail
 refine(HBE.out _).mono ?_;rintro e w3 ⟨rfl,hb3⟩;have K3:=hb3.alloc hb3.size (.cells #[.int .i64 b1,.int .i64 b2] 37);have H3:=Hd (R0.out.later (by omega) K3);have P3:=Hd (T0.out.later (by omega) K3);have B3:Hid (Below w.heap.size w (w3.alloc (.cells #[.int .i64 b1,.int .i64 b2] 37))):=B0.out.trans (K3.mono B0.out.size);have T3:Hid (Two (w3.alloc (.cells #[.int .i64 b1,.int .i64 b2] 37)) w3.heap.size (.int .i64 b1) (.int .i64 b2)):=Two.of_row (t:=37) (f:=_) (heap_new _ _ _ rfl);have hs3:w.heap.size+2<=w3.heap.size/\w3.heap.size<(w3.alloc (.cells #[.int .i64 b1,.int .i64 b2] 37)).heap.size:=⟨by have:=hb3.size;omega,by simp⟩;clear hb3 K3 R0 T0 B0 t0 t1
 go_upto_region 4 with(fail)
 generalize w3.alloc (.cells #[.int .i64 b1,.int .i64 b2] 37)=w4 at *;obtain⟨t0,t1⟩:=T3.out;obtain⟨p0,p1⟩:=P3.out
 go_wp2_with fail
 refine(HMU.out _).mono ?_;rintro e w5 ⟨rfl,hb5⟩;obtain⟨⟨r0,r1⟩,f0,f1⟩:=H3.out.later (by omega) hb5;have B5:=Hd (B3.out.trans (hb5.mono B3.out.size));have hs5:=hb5.size;clear hb5 H3 P3 B3 T3 t0 t1 p0 p1;go_wp2;exact bodyPost_ret (v:=.tuple #[.agg #[.int .i64 u.1,.int .i64 u.2],.bool true]) (by simp[results,Tryz.results72,go_sem, *]) rfl ⟨rfl,(B5.out.setCell (p:=⟨w.heap.size+1,0,none⟩) (Nat.le_succ _) _).setCell (p:=⟨w.heap.size+1,1,none⟩) (Nat.le_succ _) _⟩
def atE(m:Nat)(z:E2):E2:=spotE (mulE (bE m) z)
theorem centre_in(z:E2)(hz:Sm 1073741824 z)(r:Nat)(hr:r<=12)(w:World):
  Calls Tryz.prog 35 #[vE z,.int .i64 r] w fun e w'=>e=.returned (.tuple #[.int .i64 (atE (12-r) z).1,.int .i64 (atE (12-r) z).2,.bool true])/\Below w.heap.size w w':=by
 have hpl:=place_in z hz r hr 1 (.inl rfl);rw[Int.one_mul,Int.one_mul]at hpl;have HPL:=Hd hpl;have HSP:=Hd (spot_in (mulE (bE (12-r)) (z.1,z.2)) ((mid_sm (by omega) (hz.mono (by decide))).mono (by decide)));have he:atE (12-r) z=spotE (mulE (bE (12-r)) (z.1,z.2)):=rfl;rw[he];clear hpl he hz;generalize spotE (mulE (bE (12-r)) (z.1,z.2))=s at *;generalize mulE (bE (12-r)) (z.1,z.2)=u at *;obtain⟨z1,z2⟩:=z;simp only[vE]at *;have T0:Hid (Two (w.alloc (.cells #[.int .i64 z1,.int .i64 z2] 37)) w.heap.size (.int .i64 z1) (.int .i64 z2)):=Two.of_row (t:=37) (f:=_) (heap_new _ _ _ rfl);have B0:Hid (Below w.heap.size w (w.alloc (.cells #[.int .i64 z1,.int .i64 z2] 37))):=br.alloc lr _
 go_enter Tryz.func35,Tryz.ntmps35
 go_upto_region 1 with(fail)
 have s0:w.heap.size<(w.alloc (.cells #[.int .i64 z1,.int .i64 z2] 37)).heap.size:=by simp
 generalize w.alloc (.cells #[.int .i64 z1,.int .i64 z2] 37)=w1 at *;obtain⟨t0,t1⟩:=T0.out
 go_wp2_with fail
 refine(HPL.out _).mono ?_;rintro e w3 ⟨rfl,hb3⟩;have K3:=hb3.alloc hb3.size (.cells #[.int .i64 u.1,.int .i64 u.2] 37);have B3:Hid (Below w.heap.size w (w3.alloc (.cells #[.int .i64 u.1,.int .i64 u.2] 37))):=B0.out.trans (K3.mono B0.out.size);have T3:Hid (Two (w3.alloc (.cells #[.int .i64 u.1,.int .i64 u.2] 37)) w3.heap.size (.int .i64 u.1) (.int .i64 u.2)):=Two.of_row (t:=37) (f:=_) (heap_new _ _ _ rfl);have s3:w3.heap.size<(w3.alloc (.cells #[.int .i64 u.1,.int .i64 u.2] 37)).heap.size:=by simp
 clear hb3 K3 T0 B0 t0 t1
 go_upto_region 2 with(fail)
 generalize w3.alloc (.cells #[.int .i64 u.1,.int .i64 u.2] 37)=w4 at *;obtain⟨t0,t1⟩:=T3.out
 go_wp2_with fail
 refine(HSP.out _).mono ?_;rintro e w5 ⟨rfl,hb5⟩;have K5:=hb5.alloc hb5.size (.cells #[.int .i64 s.1,.int .i64 s.2] 26);have B5:Hid (Below w.heap.size w (w5.alloc (.cells #[.int .i64 s.1,.int .i64 s.2] 26))):=B3.out.trans (K5.mono B3.out.size);have T5:Hid (Two (w5.alloc (.cells #[.int .i64 s.1,.int .i64 s.2] 26)) w5.heap.size (.int .i64 s.1) (.int .i64 s.2)):=Two.of_row (t:=26) (f:=_) (heap_new _ _ _ rfl);have s5:w5.heap.size<(w5.alloc (.cells #[.int .i64 s.1,.int .i64 s.2] 26)).heap.size:=by simp
 clear hb5 K5 T3 B3 t0 t1
 go_upto_region 5 with(fail)
 generalize w5.alloc (.cells #[.int .i64 s.1,.int .i64 s.2] 26)=w6 at *;obtain⟨t0,t1⟩:=T5.out;have B6:Hid (Below w.heap.size w w6.drew):=B5.out.drew
 go_wp2_with(first|(with_reducible refine wp_region_lex (by kernel_rfl) (by kernel_rfl) ?_)|(with_reducible refine OnlyG.intro (by kernel_rfl) ?_))
 exact bodyPost_ret (v:=.tuple #[.int .i64 s.1,.int .i64 s.2,.bool true]) (by simp[results,Tryz.results35,go_sem, *]) rfl ⟨rfl,B6.out⟩
theorem kap_sm(k:Nat):Sm 2 (kapE k):=by
 unfold kapE Sm
 split <;> decide
theorem sm_add{a b:Int}{x y:E2}(hx:Sm a x)(hy:Sm b y):Sm (a+b) (addE x y):=by
 unfold Sm at *;unfold addE;simp only;omega
theorem hcorner_in(p b k:E2)(hp:Sm 1000000000000000 p)(hb:Sm 1048576 b)(hk:Sm 2 k)(hm:Sm 1000000000000000 (mulE b k))(w:World):
  Calls Tryz.prog 146 #[.agg #[.int .i64 p.1,.int .i64 p.2,.int .i64 b.1,.int .i64 b.2],vE k] w fun e w'=>e=.returned (vE (spotE (addE p (mulE b k))))/\Below w.heap.size w w':=by
 have HMU:=Hd (emul_in b k (hb.mono (by decide)) (hk.mono (by decide)) (hm.mono (by decide)));have HAD:=Hd (add_in p (mulE b k) (hp.mono (by decide)) (hm.mono (by decide)));have HSP:=Hd (spot_in (addE p (mulE b k)) ((sm_add hp hm).mono (by decide)));clear hp hb hk hm;generalize spotE (addE p (mulE b k))=s at *;generalize addE p (mulE b k)=a at *;generalize mulE b k=f at *;obtain⟨p1,p2⟩:=p;obtain⟨b1,b2⟩:=b;obtain⟨k1,k2⟩:=k;simp only[vE]at *;have N0:∀j u,[Value.int .i64 p1,.int .i64 p2,.int .i64 b1,.int .i64 b2][j]? =some u->(((w.alloc (.cells #[.int .i64 p1,.int .i64 p2,.int .i64 b1,.int .i64 b2] 194)).alloc (.cells #[.int .i64 k1,.int .i64 k2] 37)).alloc (.cells #[.int .i64 0,.int .i64 0] 26)).cell? ⟨w.heap.size,j,none⟩=some u:=fun j u hj=>by
  have h1:(w.alloc (.cells #[.int .i64 p1,.int .i64 p2,.int .i64 b1,.int .i64 b2] 194)).cell? ⟨w.heap.size,j,none⟩=some u:=by
   rw[cell_of_row _ w.heap.size j _ 194 (0,0) (heap_new w _ _ rfl)];simpa using hj
  have hb:=((Below.refl (w.alloc (.cells #[.int .i64 p1,.int .i64 p2,.int .i64 b1,.int .i64 b2] 194)).heap.size (w.alloc (.cells #[.int .i64 p1,.int .i64 p2,.int .i64 b1,.int .i64 b2] 194))).alloc lr (.cells #[.int .i64 k1,.int .i64 k2] 37)).alloc (by simp) (.cells #[.int .i64 0,.int .i64 0] 26);rw[hb.cell (p:=⟨w.heap.size,j,none⟩) (by simp)];exact h1
 have T0:Hid (Two (((w.alloc (.cells #[.int .i64 p1,.int .i64 p2,.int .i64 b1,.int .i64 b2] 194)).alloc (.cells #[.int .i64 k1,.int .i64 k2] 37)).alloc (.cells #[.int .i64 0,.int .i64 0] 26)) (w.heap.size+1) (.int .i64 k1) (.int .i64 k2)):=(Two.of_row (t:=37) (f:=_) (heap_new _ _ _ (by simp))).later (by simp) (br.alloc lr _);have R0:Hid (Two2 (((w.alloc (.cells #[.int .i64 p1,.int .i64 p2,.int .i64 b1,.int .i64 b2] 194)).alloc (.cells #[.int .i64 k1,.int .i64 k2] 37)).alloc (.cells #[.int .i64 0,.int .i64 0] 26)) (w.heap.size+1+1) (.int .i64 0) (.int .i64 0)):=Two2.of_row (t:=26) (heap_new _ _ _ (by simp));have B0:Hid (Below w.heap.size w (((w.alloc (.cells #[.int .i64 p1,.int .i64 p2,.int .i64 b1,.int .i64 b2] 194)).alloc (.cells #[.int .i64 k1,.int .i64 k2] 37)).alloc (.cells #[.int .i64 0,.int .i64 0] 26))):=(((Below.refl w.heap.size w).alloc lr _).alloc (by simp) _).alloc (by simp;omega) _;have s0:w.heap.size+3<=(((w.alloc (.cells #[.int .i64 p1,.int .i64 p2,.int .i64 b1,.int .i64 b2] 194)).alloc (.cells #[.int .i64 k1,.int .i64 k2] 37)).alloc (.cells #[.int .i64 0,.int .i64 0] 26)).heap.size:=by simp
 go_enter Tryz.func146,Tryz.ntmps146
 go_upto_region 1 with(fail)
 generalize((w.alloc (.cells #[.int .i64 p1,.int .i64 p2,.int .i64 b1,.int .i64 b2] 194)).alloc (.cells #[.int .i64 k1,.int .i64 k2] 37)).alloc (.cells #[.int .i64 0,.int .i64 0] 26)=w1 at *;have n0:=N0 0 _ rfl;have n1:=N0 1 _ rfl;have n2:=N0 2 _ rfl;have n3:=N0 3 _ rfl;have PW:Hid (Two w1 w.heap.size (.int .i64 p1) (.int .i64 p2)):=⟨n0,n1⟩;obtain⟨t0,t1⟩:=T0.out;clear N0
 go_wp2_with fail
 refine(HMU.out _).mono ?_;rintro e w3 ⟨rfl,hb3⟩;have K3:=hb3.alloc hb3.size (.cells #[.int .i64 f.1,.int .i64 f.2] 37);have P3:=Hd (PW.out.later (by omega) K3);have R3:=Hd (R0.out.later (by omega) K3);have B3:Hid (Below w.heap.size w (w3.alloc (.cells #[.int .i64 f.1,.int .i64 f.2] 37))):=B0.out.trans (K3.mono B0.out.size);have T3:Hid (Two (w3.alloc (.cells #[.int .i64 f.1,.int .i64 f.2] 37)) w3.heap.size (.int .i64 f.1) (.int .i64 f.2)):=Two.of_row (t:=37) (f:=_) (heap_new _ _ _ rfl);have s3:w.heap.size+3<=w3.heap.size/\w3.heap.size<(w3.alloc (.cells #[.int .i64 f.1,.int .i64 f.2] 37)).heap.size:=⟨by have:=hb3.size;omega,by simp⟩;clear hb3 K3 T0 R0 B0 PW t0 t1 n0 n1 n2 n3
 go_upto_region 2 with(fail)
 generalize w3.alloc (.cells #[.int .i64 f.1,.int .i64 f.2] 37)=w4 at *;obtain⟨t0,t1⟩:=T3.out;obtain⟨p0,p1'⟩:=P3.out
 go_wp2_with fail
 refine(HAD.out _).mono ?_;rintro e w5 ⟨rfl,hb5⟩;have K5:=hb5.alloc hb5.size (.cells #[.int .i64 a.1,.int .i64 a.2] 37);have R5:=Hd (R3.out.later (by omega) K5);have B5:Hid (Below w.heap.size w (w5.alloc (.cells #[.int .i64 a.1,.int .i64 a.2] 37))):=B3.out.trans (K5.mono B3.out.size);have T5:Hid (Two (w5.alloc (.cells #[.int .i64 a.1,.int .i64 a.2] 37)) w5.heap.size (.int .i64 a.1) (.int .i64 a.2)):=Two.of_row (t:=37) (f:=_) (heap_new _ _ _ rfl);have s5:w.heap.size+3<=w5.heap.size/\w5.heap.size<(w5.alloc (.cells #[.int .i64 a.1,.int .i64 a.2] 37)).heap.size:=⟨by have:=hb5.size;omega,by simp⟩;clear hb5 K5 T3 R3 B3 P3 t0 t1 p0 p1'
 go_upto_region 3 with(fail)
 generalize w5.alloc (.cells #[.int .i64 a.1,.int .i64 a.2] 37)=w6 at *;obtain⟨t0,t1⟩:=T5.out
 go_wp2_with fail
 refine(HSP.out _).mono ?_;rintro e w7 ⟨rfl,hb7⟩;obtain⟨⟨r0,r1⟩,f0,f1⟩:=R5.out.later (by omega) hb7;have B7:=Hd (B5.out.trans (hb7.mono B5.out.size));have s7:=hb7.size;clear hb7 T5 R5 B5 t0 t1;go_wp2;exact bodyPost_ret (v:=.agg #[.int .i64 s.1,.int .i64 s.2]) (by simp[results,Tryz.results146,go_sem, *]) rfl ⟨rfl,(B7.out.setCell (p:=⟨w.heap.size+1+1,0,none⟩) (by simp;omega) _).setCell (p:=⟨w.heap.size+1+1,1,none⟩) (by simp;omega) _⟩
def hexL(m:Nat)(z:E2):List E2:=(List.range 6).map (hexC m z)
theorem hexL_get(m:Nat)(z:E2){k:Nat}(hk:k<6):prG (hexL m z) k=hexC m z k:=by
 unfold prG hexL;rw[List.getD_eq_getElem?_getD,List.getElem?_map,List.getElem?_range hk];rfl
theorem hexL_len(m:Nat)(z:E2):(hexL m z).length=6:=by unfold hexL;simp
theorem take_pr(l:List E2){k:Nat}(h:k<l.length):l.take (k+1)=l.take k++[prG l k]:=by
 rw[List.take_succ_eq_append_getElem h];unfold prG;rw[List.getD_eq_getElem?_getD,List.getElem?_eq_getElem h];rfl
theorem hex_in(z:E2)(hz:Sm 1073741824 z)(r:Nat)(hr:r<=12)(w:World):
  Calls Tryz.prog 102 #[vE z,.int .i64 r] w fun e w'=>∃ao c,e=.returned (.tuple #[.slice ao 6 c,.bool true])/\w'.ownsRow w.heap.size 26 2 (.slice ao 6 c) 6 (prV (hexL (12-r) z))/\Below w.heap.size w w':=by
 have hmf:∀(fn:Fn) (first cap:Array Value) (w:World),(Instr.makeFunc fn first cap).run Tryz.prog w=.ok (.func fn first cap) w:=fun _ _ _ _=>rfl
 obtain⟨i1,hi1,hy0,hy1,hy2⟩:=info_parts info_pt;have HPL:=Hd (place_in z hz r hr 3 (.inr rfl));have hm:(12:Int)-(r:Int)=((12-r:Nat):Int):=by omega
 have hm12:12-r<=12:=by omega
 have HBE:=Hd (beta_in (12-r) hm12);have h3:Sm 3221225472 (3*z.1,3*z.2):=by unfold Sm at hz ⊢;simp only;omega
 have HCO:Hid (∀ k,k<6->∀w,Calls Tryz.prog 146 #[.agg #[.int .i64 (midE (12-r) z).1,.int .i64 (midE (12-r) z).2,.int .i64 (bE (12-r)).1,.int .i64 (bE (12-r)).2],vE (kapE k)] w fun e w'=>e=.returned (vE (prG (hexL (12-r) z) k))/\Below w.heap.size w w'):=fun k hk w=>by
  rw[hexL_get _ _ hk];exact hcorner_in _ _ _ (mid_sm hm12 h3) (bE_sm hm12) (kap_sm k) (mid_sm hm12 ((kap_sm k).mono (by decide))) w
 have HTK:Hid (∀ k,k<6->prV ((hexL (12-r) z).take (k+1))=prV ((hexL (12-r) z).take k)++[.int .i64 (prG (hexL (12-r) z) k).1,.int .i64 (prG (hexL (12-r) z) k).2]):=fun k hk=>by
  rw[take_pr _ (by rw[hexL_len];exact hk),prV_snoc]
 have HTE:Hid ((hexL (12-r) z).take 6=hexL (12-r) z):=List.take_of_length_le (by rw[hexL_len];exact lr);rw[show mulE (bE (12-r)) (3*z.1,3*z.2)=midE (12-r) z from rfl]at HPL;generalize midE (12-r) z=u at *;generalize hexL (12-r) z=L at *;generalize bE (12-r)=b at *;generalize 12-r=m at *;obtain⟨z1,z2⟩:=z;simp only[vE]at *;clear hz h3;have T0:Hid (Two (w.alloc (.cells #[.int .i64 z1,.int .i64 z2] 37)) w.heap.size (.int .i64 z1) (.int .i64 z2)):=Two.of_row (t:=37) (f:=_) (heap_new _ _ _ rfl);have B0:Hid (Below w.heap.size w (w.alloc (.cells #[.int .i64 z1,.int .i64 z2] 37))):=br.alloc lr _;have s0:w.heap.size<(w.alloc (.cells #[.int .i64 z1,.int .i64 z2] 37)).heap.size:=by simp
 go_enter Tryz.func102,Tryz.ntmps102
 go_upto_region 1 with(fail)
 generalize w.alloc (.cells #[.int .i64 z1,.int .i64 z2] 37)=w1 at *;obtain⟨t0,t1⟩:=T0.out
 go_wp2_with fail
 refine(HPL.out _).mono ?_;rintro e w3 ⟨rfl,hb3⟩;have K3:=hb3.alloc hb3.size (.cells #[.int .i64 u.1,.int .i64 u.2] 37);have B3:Hid (Below w.heap.size w (w3.alloc (.cells #[.int .i64 u.1,.int .i64 u.2] 37))):=B0.out.trans (K3.mono B0.out.size);have T3:Hid (Two (w3.alloc (.cells #[.int .i64 u.1,.int .i64 u.2] 37)) w3.heap.size (.int .i64 u.1) (.int .i64 u.2)):=Two.of_row (t:=37) (f:=_) (heap_new _ _ _ rfl);have s3:w3.heap.size<(w3.alloc (.cells #[.int .i64 u.1,.int .i64 u.2] 37)).heap.size:=by simp
 clear hb3 K3 T0 B0 t0 t1
 go_upto_region 2 with(fail)
 generalize w3.alloc (.cells #[.int .i64 u.1,.int .i64 u.2] 37)=w4 at*
 go_wp2_with fail
 refine(HBE.out _).mono ?_;rintro e w5 ⟨rfl,hb5⟩;have K5:=hb5.alloc hb5.size (.cells #[.int .i64 b.1,.int .i64 b.2] 37);have B5:Hid (Below w.heap.size w (w5.alloc (.cells #[.int .i64 b.1,.int .i64 b.2] 37))):=B3.out.trans (K5.mono B3.out.size);have U5:=Hd (T3.out.later s3 K5);have T5:Hid (Two (w5.alloc (.cells #[.int .i64 b.1,.int .i64 b.2] 37)) w5.heap.size (.int .i64 b.1) (.int .i64 b.2)):=Two.of_row (t:=37) (f:=_) (heap_new _ _ _ rfl);have s5:w3.heap.size<w5.heap.size/\w5.heap.size<(w5.alloc (.cells #[.int .i64 b.1,.int .i64 b.2] 37)).heap.size:=⟨by have:=hb5.size;omega,by simp⟩;clear hb5 K5 T3 B3
 go_upto_region 5 with(fail)
 generalize w5.alloc (.cells #[.int .i64 b.1,.int .i64 b.2] 37)=w6 at *;obtain⟨t0,t1⟩:=T5.out;obtain⟨u0,u1⟩:=U5.out;go_wp2;have hkl:(prV ((List.range 6).map kapE)).toArray=#[.int .i64 1,.int .i64 1,.int .i64 (-1),.int .i64 2,.int .i64 (-2),.int .i64 1,.int .i64 (-1),.int .i64 (-1),.int .i64 1,.int .i64 (-2),.int .i64 2,.int .i64 (-1)]:=rfl;have hka:=prAt_new w6 ((List.range 6).map kapE) 37;rw[hkl]at hka;have K7:=(Below.refl w6.heap.size w6).alloc lr (.cells #[.int .i64 1,.int .i64 1,.int .i64 (-1),.int .i64 2,.int .i64 (-2),.int .i64 1,.int .i64 (-1),.int .i64 (-1),.int .i64 1,.int .i64 (-2),.int .i64 2,.int .i64 (-1)] 37);have B7:=Hd (B5.out.trans (K7.mono B5.out.size));have HKA:=Hd hka;clear hka hkl K7 B5 T5 U5 t0 t1 u0 u1;generalize w6.alloc (.cells #[.int .i64 1,.int .i64 1,.int .i64 (-1),.int .i64 2,.int .i64 (-2),.int .i64 1,.int .i64 (-1),.int .i64 (-1),.int .i64 1,.int .i64 (-2),.int .i64 2,.int .i64 (-1)] 37)=w7 at *;have hs7:=B7.out.size;have HKG:Hid (∀ k,k<6->prG ((List.range 6).map kapE) k=kapE k):=fun k hk=>by
  unfold prG;rw[List.getD_eq_getElem?_getD,List.getElem?_map,List.getElem?_range hk];rfl
 go_loopw [11,40] (fun ov iv wr=>∃(k:Nat) (oo:Option Addr) (oc:Nat),k<=6/\iv=.int .i64 k/\ov=.slice oo k oc/\Hid (wr.ownsRow w7.heap.size 26 2 (.slice oo k oc) k (prV (L.take k))/\Below w7.heap.size w7 wr)) (fun _ i _=>6-(intOf i).toNat)
 case atStart=>exact⟨0,none,0,by omega,rfl,rfl,World.ownsRow_nil _ _ _ _,br⟩
 case round=>
  obtain⟨k,oo,oc,hk,rfl,rfl,HI⟩:=hrel;obtain⟨wo,rfl⟩:∃wo,wo=wr:=⟨_,rfl⟩;by_cases hlt:k<6
  ·have q1:decide ((k:Int)<6)=true:=decide_eq_true (by omega)
   obtain⟨g,off,hg0,hg,hc⟩:=(HKA.out.below HI.out.2) (by simp);cases hg0;obtain⟨c0,c1⟩:=hc k (by simpa using hlt);rw[HKG.out k hlt]at c0 c1;rw[Nat.zero_add]at c0 c1;have HCK:=Hd (HCO.out k hlt);have HTS:=Hd (HTK.out k hlt);generalize prG L k=x at *;generalize kapE k=κ at *;have hown:=HI.out.1;have hsz:w7.heap.size<=wo.heap.size:=HI.out.2.size;have KA:=(Below.refl wo.heap.size wo).alloc lr (.cells #[.int .i64 κ.1,.int .i64 κ.2] 37);have HOA:=Hd (own_later hown KA);have HBA:=Hd (HI.out.2.trans (KA.mono hsz));have HTA:Hid (Two (wo.alloc (.cells #[.int .i64 κ.1,.int .i64 κ.2] 37)) wo.heap.size (.int .i64 κ.1) (.int .i64 κ.2)):=Two.of_row (t:=37) (f:=_) (heap_new _ _ _ rfl);have hsa:wo.heap.size<(wo.alloc (.cells #[.int .i64 κ.1,.int .i64 κ.2] 37)).heap.size:=by simp
   clear HI hown KA hc
   go_upto_region 10 with(fail)
   generalize wo.alloc (.cells #[.int .i64 κ.1,.int .i64 κ.2] 37)=wa at *;obtain⟨t0,t1⟩:=HTA.out;clear c0 c1 hg
   go_wp2_with fail
   refine(HCK.out _).mono ?_;rintro e wb ⟨rfl,hbb⟩;have hown:=own_later HOA.out hbb;have hbB:=HBA.out.trans (hbb.mono HBA.out.size);have hsb:w7.heap.size<=wb.heap.size:=hbB.size;have HBB:=Hd hbB;clear hbb HOA HBA HTA t0 t1 hbB
   go_wp2_with(at_builtin;refine wpList_append_own _ rfl (.tmp 44) (.tmp 48) 27 rfl w7.heap.size 26 i1 (.agg #[.int .i64 0,.int .i64 0]) 2 16 Tryz.underlying27 hi1 hy0 hy1 hy2 rfl (by decide) _ _ _ rfl (hown.alloc _) ⟨wb.heap.size,0,none⟩ 1 1 [.int .i64 x.1,.int .i64 x.2] rfl rfl (cells_new _ _ _ _ rfl) (by simp[Value.oneCell']) (by unfold maxLen;omega) (by omega) (by simp;omega) ?_;intro v' w8 hown1 hgrow _)
   have HB8:Hid (Below w7.heap.size w7 w8):=below_append (HBB.out.alloc hsb (.cells #[.int .i64 x.1,.int .i64 x.2] 26)) (hown.alloc (.cells #[.int .i64 x.1,.int .i64 x.2] 26)) (by simp;omega) hgrow;obtain⟨ao',c',rfl,_⟩:=own_form hown1;have HO8:=Hd hown1;clear hown1 hgrow hown HBB;go_wp2
   go_roundw
   case rel=>exact⟨k+1,ao',c',by omega,by go_num,rfl,by rw[HTS.out];exact HO8.out,HB8.out⟩
   case measure=>simp[intOf];omega
  ·obtain rfl:k=6:=by omega
   have hown:=HI.out.1;rw[HTE.out]at hown;have HO:=Hd (own_base hown hs7);have HB:=Hd (B7.out.trans (HI.out.2.mono hs7));clear HI hown;go_wp2;go_ret2;exact⟨oo,oc,rfl,HO.out,HB.out⟩
end
section
open Go.RowKit Go.Lib
theorem prV_set:∀(L:List E2) (i:Nat) (p:E2),prV (L.set i p)=((prV L).set (i*2) (.int .i64 p.1)).set (i*2+1) (.int .i64 p.2)
 |[],i,p=>by simp[prV]
 |q::l,0,p=>rfl
 |q::l,i+1,p=>by
  have e1:(i+1)*2=i*2+1+1:=by omega
  have e2:prV ((q::l).set (i+1) p)=.int .i64 q.1:: .int .i64 q.2::prV (l.set i p):=rfl;have e3:prV (q::l)=.int .i64 q.1:: .int .i64 q.2::prV l:=rfl;rw[e2,e3,e1,List.set_cons_succ,List.set_cons_succ,List.set_cons_succ,List.set_cons_succ,prV_set l i p]
def RowE(w:World)(B r ro:Nat)(vo:Option Addr)(c:Nat)(L:List E2):Prop:=
 w.cell? ⟨r,ro,none⟩=some (.slice vo L.length c)/\w.frozen? ⟨r,ro,none⟩=false/\w.ownsRow B 37 2 (.slice vo L.length c) L.length (prV L)/\(∀ g o s,vo=some ⟨g,o,s⟩->g≠r)/\L.length<=1000000
theorem RowE.lt{w:World}{B r ro c:Nat}{vo:Option Addr}{L:List E2}(h:RowE w B r ro vo c L):r<w.heap.size:=World.block_lt_of_cell? w _ h.1
theorem RowE.len{w:World}{B r ro c:Nat}{vo:Option Addr}{L:List E2}(h:RowE w B r ro vo c L):L.length<=1000000:=h.2.2.2.2
theorem RowE.head{w:World}{B r ro c n:Nat}{vo:Option Addr}{L:List E2}(h:RowE w B r ro vo c L)(hn:L.length=n):w.cell? ⟨r,ro,none⟩=some (.slice vo n c):=by rw[<- hn];exact h.1
theorem RowE.cells{w:World}{B r ro c:Nat}{vo:Option Addr}{L:List E2}(h:RowE w B r ro vo c L)(h0:0<L.length):
  ∃g,vo=some ⟨g,0,none⟩/\g<w.heap.size/\g≠r/\(∀ j,w.frozen? ⟨g,j,none⟩=false)/\∀i,i<L.length->w.cell? ⟨g,i*2,none⟩=some (.int .i64 (prG L i).1)/\w.cell? ⟨g,i*2+1,none⟩=some (.int .i64 (prG L i).2):=by
 have ho:=h.2.2.1;rcases ho.2 with⟨_,h1⟩|⟨g,cap,cur,hv,_,hh,_⟩
 ·omega
 ·cases hv
  refine⟨g,rfl,(Array.getElem?_eq_some_iff.1 hh).1,h.2.2.2.1 _ _ _ rfl,fun j=>by simp[World.frozen?,hh],fun i hi=>?_⟩;have:=prV_get L i hi;exact⟨(ho.cellAt (i*2) (by omega)).trans this.1,(ho.cellAt (i*2+1) (by omega)).trans this.2⟩
def FootE(r:Nat)(vo:Option Addr):Nat->Prop:=fun k=>k=r∨∃o s,vo=some ⟨k,o,s⟩
def TE(r ro:Nat)(vo:Option Addr)(w w':World):Prop:=Turn (FootE r vo) w w'/\(∀ j,j≠ro->w'.cell? ⟨r,j,none⟩=w.cell? ⟨r,j,none⟩)/\∀j,w'.frozen? ⟨r,j,none⟩=w.frozen? ⟨r,j,none⟩
theorem TE.refl(r ro:Nat)(vo:Option Addr)(w:World):TE r ro vo w w:=⟨Turn.refl _ _,fun _ _=>rfl,fun _=>rfl⟩
theorem TE.trans{r ro:Nat}{vo vo':Option Addr}{w w1 w2:World}(h:TE r ro vo w w1)(h2:TE r ro vo' w1 w2)(hG:∀k,k<w.heap.size->FootE r vo' k->FootE r vo k):TE r ro vo w w2:=
 ⟨h.1.trans h2.1 hG,fun j hj=>(h2.2.1 j hj).trans (h.2.1 j hj),fun j=>(h2.2.2 j).trans (h.2.2 j)⟩
theorem TE.below{r ro:Nat}{vo:Option Addr}{w w1 w2:World}(h:TE r ro vo w w1)(hr:r<w1.heap.size)(hb:Below w1.heap.size w1 w2):TE r ro vo w w2:=
 ⟨h.1.trans (T:=fun _=>False) (Turn.of_below hb) fun _ _ h=>h.elim,fun j hj=>(World.cell?_of_block (a:=⟨r,j,none⟩) (hb.block r hr)).trans (h.2.1 j hj),fun j=>(World.frozen?_of_block (a:=⟨r,j,none⟩) (hb.block r hr)).trans (h.2.2 j)⟩
theorem RowE.kept{S:Nat->Prop}{w w':World}{B r ro c:Nat}{vo:Option Addr}{L:List E2}(h:RowE w B r ro vo c L)(ht:Turn S w w')(hS:∀k,FootE r vo k->¬S k):RowE w' B r ro vo c L:=by
 have e:w'.heap[r]? =w.heap[r]? :=ht.2.2.2.2 r h.lt (hS r (.inl rfl));exact⟨(World.cell?_of_block (a:=⟨r,ro,none⟩) e).trans h.1,(World.frozen?_of_block (a:=⟨r,ro,none⟩) e).trans h.2.1,own_turn h.2.2.1 ht fun g o s e=>hS g (.inr ⟨o,s,e⟩),h.2.2.2⟩
theorem RowE.below{w w':World}{B r ro c:Nat}{vo:Option Addr}{L:List E2}(h:RowE w B r ro vo c L)(hb:Below w.heap.size w w'):RowE w' B r ro vo c L:=h.kept (S:=fun _=>False) (Turn.of_below hb) fun _ _ h=>h
def lessE(a b:E2):Bool:=decide (a.1<b.1)||(decide (a.1=b.1)&&decide (a.2<b.2))
theorem flen_any(vo:Option Addr)(n c:Nat)(w:World):Calls Tryz.prog 64 #[.slice vo n c] w fun e w'=>e=.returned (.int .i64 n)/\w=w':=by
 go_enter Tryz.func64,Tryz.ntmps64
 go_wp2;go_ret;exact⟨rfl,rfl⟩
theorem fless_any{w:World}{g c n i k:Nat}{a b:E2}(hi:i<n)(hk:k<n)(ha:w.cell? ⟨g,i*2,none⟩=some (.int .i64 a.1))(ha2:w.cell? ⟨g,i*2+1,none⟩=some (.int .i64 a.2))
  (hb:w.cell? ⟨g,k*2,none⟩=some (.int .i64 b.1)) (hb2:w.cell? ⟨g,k*2+1,none⟩=some (.int .i64 b.2)):
  Calls Tryz.prog 202 #[.slice (some ⟨g,0,none⟩) n c,.int .i64 i,.int .i64 k] w fun e w'=>e=.returned (.bool (lessE a b))/\Below w.heap.size w w':=by
 obtain⟨a1,a2⟩:=a;obtain⟨b1,b2⟩:=b;by_cases c1:a1<b1
 ·have HL:Hid (lessE (a1,a2) (b1,b2)=true):=by show _=_;simp[lessE,c1]
  go_enter Tryz.func202,Tryz.ntmps202
  go_wp2_with(first|(with_reducible refine wp_region_lex (by kernel_rfl) (by kernel_rfl) ?_)|(with_reducible refine OnlyG.intro (by kernel_rfl) ?_))
  go_ret;exact⟨by rw[HL.out];rfl,(Below.refl _ w).drew⟩
 ·by_cases c2:a1=b1
  ·have q2:(a1==b1)=true:=by simpa using c2
   have HL:Hid (lessE (a1,a2) (b1,b2)=decide (a2<b2)):=by show _=_;simp[lessE,c2]
   clear c2
   go_enter Tryz.func202,Tryz.ntmps202
   go_wp2_with(first|(with_reducible refine wp_region_lex (by kernel_rfl) (by kernel_rfl) ?_)|(with_reducible refine OnlyG.intro (by kernel_rfl) ?_))
   go_ret;exact⟨by rw[HL.out];rfl,(Below.refl _ w).drew⟩
  ·have q2:(a1==b1)=false:=by simpa using c2
   have HL:Hid (lessE (a1,a2) (b1,b2)=false):=by show _=_;simp[lessE,c1,c2]
   go_enter Tryz.func202,Tryz.ntmps202
   go_wp2_with(first|(with_reducible refine wp_region_lex (by kernel_rfl) (by kernel_rfl) ?_)|(with_reducible refine OnlyG.intro (by kernel_rfl) ?_))
   go_ret;exact⟨by rw[HL.out];rfl,(Below.refl _ w).drew⟩
def swapE(L:List E2)(i k:Nat):List E2:=(L.set i (prG L k)).set k (prG L i)
theorem swapE_length(L:List E2)(i k:Nat):(swapE L i k).length=L.length:=by simp[swapE]
theorem prG_set{L:List E2}{i:Nat}(hi:i<L.length)(p:E2)(j:Nat):prG (L.set i p) j=if j=i then p else prG L j:=by
 unfold prG;rw[List.getD_eq_getElem?_getD,List.getElem?_set,List.getD_eq_getElem?_getD];by_cases e:i=j
 ·subst e;simp[hi]
 ·rw[if_neg e,if_neg (fun h=>e h.symm)]
theorem prG_swap{L:List E2}{i k:Nat}(hi:i<L.length)(hk:k<L.length)(j:Nat):prG (swapE L i k) j=if j=k then prG L i else if j=i then prG L k else prG L j:=by
 unfold swapE;rw[prG_set (by simpa using hk),prG_set hi]
def W4E(w:World)(g i k:Nat)(x y:E2):World:=
 (((w.setCell ⟨g,i*2,none⟩ (.int .i64 y.1)).setCell ⟨g,i*2+1,none⟩ (.int .i64 y.2)).setCell ⟨g,k*2,none⟩ (.int .i64 x.1)).setCell ⟨g,k*2+1,none⟩ (.int .i64 x.2)
theorem turn_w4E{S:Nat->Prop}{w:World}{g i k:Nat}{x y:E2}(hg:S g):Turn S w (W4E w g i k x y):=((((Turn.refl S w).setCell hg _).setCell hg _).setCell hg _).setCell hg _
theorem heap_w4E{w:World}{g i k b:Nat}{x y:E2}(hp:b≠g):(W4E w g i k x y).heap[b]? =w.heap[b]? :=
 (Below.heap_setCell _ _ _ _ hp).trans ((Below.heap_setCell _ _ _ _ hp).trans ((Below.heap_setCell _ _ _ _ hp).trans (Below.heap_setCell _ _ _ _ hp)))
theorem te_foot{r ro:Nat}{vo:Option Addr}{w w':World}(ht:Turn (FootE r vo) w w')(e:w'.heap[r]? =w.heap[r]?):TE r ro vo w w':=
 ⟨ht,fun j _=>World.cell?_of_block (a:=⟨r,j,none⟩) e,fun j=>World.frozen?_of_block (a:=⟨r,j,none⟩) e⟩
theorem rlessE_any{w:World}{B r ro c n:Nat}{vo:Option Addr}{L:List E2}(h:RowE w B r ro vo c L)(hn:L.length=n){i k:Nat}(hi:i<n)(hk:k<n):
  Calls Tryz.prog 202 #[.slice vo n c,.int .i64 i,.int .i64 k] w fun e w'=>e=.returned (.bool (lessE (prG L i) (prG L k)))/\Below w.heap.size w w':=by
 subst hn;obtain⟨g,rfl,hg,hgr,hf,hc⟩:=h.cells (by omega);exact fless_any hi hk (hc i hi).1 (hc i hi).2 (hc k hk).1 (hc k hk).2
theorem fswap_any{w:World}{g c n i k:Nat}{x y:E2}(hi:i<n)(hk:k<n)(hxy:i=k->x=y)(hf:∀j,w.frozen? ⟨g,j,none⟩=false)(ha:w.cell? ⟨g,i*2,none⟩=some (.int .i64 x.1))(ha2:w.cell? ⟨g,i*2+1,none⟩=some (.int .i64 x.2))
  (hb:w.cell? ⟨g,k*2,none⟩=some (.int .i64 y.1)) (hb2:w.cell? ⟨g,k*2+1,none⟩=some (.int .i64 y.2)):
  Calls Tryz.prog 203 #[.slice (some ⟨g,0,none⟩) n c,.int .i64 i,.int .i64 k] w fun e w'=>e=.returned (.tuple #[])/\w'=(W4E w g i k x y).drew:=by
 have fi0:=hf (i*2);have fi1:=hf (i*2+1);have fk0:=hf (k*2);have fk1:=hf (k*2+1);unfold W4E;clear hf;by_cases e:i=k
 ·subst e
  cases hxy rfl;clear hxy hb hb2 fk0 fk1 hk
  go_enter Tryz.func203,Tryz.ntmps203
  go_wp2_with(first|(with_reducible refine wp_region_lex (by kernel_rfl) (by kernel_rfl) ?_)|(with_reducible refine OnlyG.intro (by kernel_rfl) ?_))
  go_end0
  exact⟨rfl,rfl⟩
 ·have e1:¬k=i:=fun h=>e h.symm
  clear hxy
  go_enter Tryz.func203,Tryz.ntmps203
  go_wp2_with(first|(with_reducible refine wp_region_lex (by kernel_rfl) (by kernel_rfl) ?_)|(with_reducible refine OnlyG.intro (by kernel_rfl) ?_))
  go_end0
  exact⟨rfl,rfl⟩
theorem rswapE_any{w:World}{B r ro c n:Nat}{vo:Option Addr}{L:List E2}(h:RowE w B r ro vo c L)(hn:L.length=n){i k:Nat}(hi:i<n)(hk:k<n):
  Calls Tryz.prog 203 #[.slice vo n c,.int .i64 i,.int .i64 k] w fun e w'=>e=.returned (.tuple #[])/\RowE w' B r ro vo c (swapE L i k)/\TE r ro vo w w':=by
 subst hn;obtain⟨g,rfl,hg,hgr,hf,hc⟩:=h.cells (by omega);refine(fswap_any hi hk (fun e=>by rw[e]) hf (hc i hi).1 (hc i hi).2 (hc k hk).1 (hc k hk).2).mono ?_;rintro e w' ⟨rfl,rfl⟩;have hT:Turn (FootE r (some ⟨g,0,none⟩)) w (W4E w g i k (prG L i) (prG L k)).drew:=(turn_w4E (.inr ⟨0,none,rfl⟩)).drew;have er:(W4E w g i k (prG L i) (prG L k)).drew.heap[r]? =w.heap[r]? :=heap_w4E fun e=>hgr e.symm
 refine⟨rfl,⟨?_,(World.frozen?_of_block (a:=⟨r,ro,none⟩) er).trans h.2.1,?_,h.2.2.2.1,by rw[swapE_length];exact h.len⟩,te_foot hT er⟩
 ·rw[swapE_length];exact(World.cell?_of_block (a:=⟨r,ro,none⟩) er).trans h.1
 ·rw[swapE_length]
  unfold swapE W4E;rw[prV_set,prV_set];exact own_drew (own_set (own_set (own_set (own_set h.2.2.1 _ _) _ _) _ _) _ _)
theorem wrap_chkE{P:Program}{w:World}(xt:TypeId)(a:Addr)(s1 s2:ByteArray):(Builtin.ssaWrapNilChk_ #[xt] xt #[.pointer (some a),.string s1,.string s2]).run P w=.ok (.pointer (some a)) w:=rfl
theorem method_derefE{P:Program}{w:World}{fuel t row f:Nat}{name:String}{v:Value}{e:TypeId}{a:Addr}(hh:((P.info? t).bind fun i=>(i.methods.find? (·.name==name)).map fun m=>(m.path.size,m.func))=some (0,some (f,false)))
  (hu:P.underlying t=some (.pointer row)) (hr:P.underlying row=some (.slice e)) (hc:w.cell? a=some v):(method (fuel+1) t (.pointer (some a)) name).run P w=.ok (f,v) w:=by
 obtain⟨i,hi,hh⟩:=Option.bind_eq_some_iff.1 hh;obtain⟨m,hm,hh⟩:=Option.map_eq_some_iff.1 hh;have hp:m.path=#[]:=Array.eq_empty_of_size_eq_zero (congrArg Prod.fst hh);have hf:m.func=some (f,false):=congrArg Prod.snd hh;unfold method;simp only[Sem.run_bind,run_typeInfo w hi,Result.andThen_ok,hm,hp,hf,follow,List.toList_toArray,Sem.run_pure,receiverAt,run_underlying hu,Place.get,strVal,Array.isEmpty_empty,if_true,wrap_chkE];simp[go_sem,asAddr,loadVar,isAgg,run_underlying hr,hc]
theorem methE_len{w:World}{r ro n c:Nat}{vo:Option Addr}(h:w.cell? ⟨r,ro,none⟩=some (.slice vo n c)):(method 340 110 (.pointer (some ⟨r,ro,none⟩)) "Len").run Tryz.prog w=.ok (64,.slice vo n c) w:=
 method_derefE (by kernel_rfl) Tryz.underlying110 Tryz.underlying103 h
theorem methE_less{w:World}{r ro n c:Nat}{vo:Option Addr}(h:w.cell? ⟨r,ro,none⟩=some (.slice vo n c)):(method 340 110 (.pointer (some ⟨r,ro,none⟩)) "Less").run Tryz.prog w=.ok (202,.slice vo n c) w:=
 method_derefE (by kernel_rfl) Tryz.underlying110 Tryz.underlying103 h
theorem methE_swap{w:World}{r ro n c:Nat}{vo:Option Addr}(h:w.cell? ⟨r,ro,none⟩=some (.slice vo n c)):(method 340 110 (.pointer (some ⟨r,ro,none⟩)) "Swap").run Tryz.prog w=.ok (203,.slice vo n c) w:=
 method_derefE (by kernel_rfl) Tryz.underlying110 Tryz.underlying103 h
def ifcE(r ro:Nat):Value:=.iface 110 (.pointer (some ⟨r,ro,none⟩))
def upFE(L:List E2)(j:Nat):List E2:=
 if j=0 then L else if lessE (prG L j) (prG L ((j-1)/2))then upFE (swapE L ((j-1)/2) j) ((j-1)/2)else L
termination_by j
decreasing_by omega
theorem upFE_zero(L:List E2):upFE L 0=L:=by rw[upFE,if_pos rfl]
theorem upFE_step{L:List E2}{j i:Nat}(hj:0<j)(hi:(j-1)/2=i)(h:lessE (prG L j) (prG L i)=true):upFE L j=upFE (swapE L i j) i:=by
 rw[upFE,if_neg (by omega),hi,h,if_pos rfl]
theorem upFE_stop{L:List E2}{j i:Nat}(hi:(j-1)/2=i)(h:lessE (prG L j) (prG L i)=false):upFE L j=L:=by
 rw[upFE]
 split
 ·rfl
 ·rw[hi,h];rfl
theorem upE_any{w:World}{B r ro c:Nat}{vo:Option Addr}{L:List E2}(h:RowE w B r ro vo c L){j0:Nat}(hj0:j0<L.length):
  Calls Tryz.prog 129 #[ifcE r ro,.int .i64 j0] w fun e w'=>e=.returned (.tuple #[])/\RowE w' B r ro vo c (upFE L j0)/\TE r ro vo w w':=by
 have hlen:=h.len;have HR:=Hd h;obtain⟨n,hn⟩:∃n,L.length=n:=⟨_,rfl⟩;have HN:=Hd hn;rw[hn]at hj0 hlen;clear h hn;unfold ifcE
 go_enter Tryz.func129,Tryz.ntmps129
 go_wp2
 go_loopw [1] (fun jv wr=>∃(j:Nat) (M:List E2),j<n/\jv=.int .i64 j/\Hid (M.length=n/\upFE M j=upFE L j0/\RowE wr B r ro vo c M/\TE r ro vo w wr)) (fun jv _=>(intOf jv).toNat)
 case atStart=>exact⟨j0,L,hj0,rfl,HN.out,rfl,HR.out,TE.refl _ _ _ _⟩
 case round=>
  obtain⟨j,M,hj,rfl,HM⟩:=hrel;by_cases hz:j=0
  ·subst hz
   have HT:Hid (RowE wr B r ro vo c (upFE L j0)/\TE r ro vo w wr):=⟨by rw[<- HM.out.2.1,upFE_zero];exact HM.out.2.2.1,HM.out.2.2.2⟩;clear HM
   go_wp2_with fail
   go_end0
   exact⟨rfl,HT.out⟩
  ·obtain⟨i,hi⟩:∃i,(j-1)/2=i:=⟨_,rfl⟩
   have hij:i<j:=by omega
   have hiI:((j:Int)-1).tdiv 2=(i:Int):=by rw[Int.tdiv_eq_ediv_of_nonneg (by omega)];omega
   have HL:=Hd (rlessE_any HM.out.2.2.1 HM.out.1 (i:=j) (k:=i) (by omega) (by omega));have mth1:=methE_less (HM.out.2.2.1.head HM.out.1);obtain⟨o,ho⟩:∃o,lessE (prG M j) (prG M i)=o:=⟨_,rfl⟩;rw[ho]at HL;have HO:=Hd ho;have HI:=Hd hi;have qij:((i:Int)==(j:Int))=false:=by simp;omega
   clear ho hi
   go_wp2_with fail
   refine HL.out.mono ?_;rintro e w1 ⟨rfl,hb⟩;have HR1:Hid (RowE w1 B r ro vo c M/\TE r ro vo w w1):=⟨HM.out.2.2.1.below hb,HM.out.2.2.2.below HM.out.2.2.1.lt hb⟩;clear hb;cases o with
   |false=>
    have HT:Hid (RowE w1 B r ro vo c (upFE L j0)/\TE r ro vo w w1):=⟨by rw[<- HM.out.2.1,upFE_stop HI.out HO.out];exact HR1.out.1,HR1.out.2⟩;clear HM HR1
    go_wp2_with fail
    go_end0
    exact⟨rfl,HT.out⟩
   |true=>
    have HS:=Hd (rswapE_any HR1.out.1 HM.out.1 (i:=i) (k:=j) (by omega) (by omega));have mth2:=methE_swap (HR1.out.1.head HM.out.1)
    go_wp2_with fail
    refine HS.out.mono ?_;rintro e w2 ⟨rfl,hr2,ht2⟩;have HN2:Hid ((swapE M i j).length=n/\upFE (swapE M i j) i=upFE L j0/\RowE w2 B r ro vo c (swapE M i j)/\TE r ro vo w w2):=
     ⟨by rw[swapE_length];exact HM.out.1,by rw[<- HM.out.2.1,upFE_step (by omega) HI.out HO.out],hr2,HR1.out.2.trans ht2 fun _ _ h=>h⟩
    clear hr2 ht2 HS HM HR1;go_wp2
    go_roundw
    case rel=>exact⟨i,swapE M i j,by omega,rfl,HN2.out⟩
    case measure=>simp[intOf];omega
def childFE(L:List E2)(i n:Nat):Nat:=if 2*i+2<n/\lessE (prG L (2*i+2)) (prG L (2*i+1))=true then 2*i+2 else 2*i+1
theorem childFE_gt(L:List E2)(i n:Nat):i<childFE L i n:=by unfold childFE;split <;> omega
theorem childFE_lt{L:List E2}{i n:Nat}(h:2*i+1<n):childFE L i n<n:=by
 unfold childFE
 split
 ·rename_i h2;exact h2.1
 ·exact h
def downFE(L:List E2)(i n:Nat):List E2×Nat:=
 if n<=2*i+1 then(L,i)else if lessE (prG L (childFE L i n)) (prG L i)then downFE (swapE L i (childFE L i n)) (childFE L i n) n else(L,i)
termination_by n-i
decreasing_by have:=childFE_gt L i n;omega
theorem downFE_end{L:List E2}{i n:Nat}(h:n<=2*i+1):downFE L i n=(L,i):=by rw[downFE,if_pos h]
theorem downFE_step{L:List E2}{i n j:Nat}(h:¬n<=2*i+1)(hj:childFE L i n=j)(hl:lessE (prG L j) (prG L i)=true):downFE L i n=downFE (swapE L i j) j n:=by
 rw[downFE,if_neg h,hj,hl,if_pos rfl]
theorem downFE_stop{L:List E2}{i n j:Nat}(hj:childFE L i n=j)(hl:lessE (prG L j) (prG L i)=false):downFE L i n=(L,i):=by
 rw[downFE]
 split
 ·rfl
 ·rw[hj,hl];rfl
theorem downE_any{w:World}{B r ro c:Nat}{vo:Option Addr}{L:List E2}(h:RowE w B r ro vo c L){i0 n:Nat}(hi0:i0<L.length)(hn:n<=L.length):
  Calls Tryz.prog 103 #[ifcE r ro,.int .i64 i0,.int .i64 n] w fun e w'=>e=.returned (.bool (decide (i0<(downFE L i0 n).2)))/\RowE w' B r ro vo c (downFE L i0 n).1/\TE r ro vo w w':=by
 have hlen:=h.len;have HR:=Hd h;obtain⟨N,hN⟩:∃n,L.length=n:=⟨_,rfl⟩;have HN:=Hd hN;rw[hN]at hi0 hlen hn;obtain⟨D,hD⟩:∃D,downFE L i0 n=D:=⟨_,rfl⟩;rw[hD];have HD:=Hd hD;clear h hN hD;unfold ifcE
 go_enter Tryz.func103,Tryz.ntmps103
 go_wp2
 go_loopw [7] (fun iv wr=>∃(i:Nat) (M:List E2),i<N/\iv=.int .i64 i/\Hid (M.length=N/\downFE M i n=D/\RowE wr B r ro vo c M/\TE r ro vo w wr)) (fun iv _=>N-(intOf iv).toNat)
 case atStart=>exact⟨i0,L,hi0,rfl,HN.out,HD.out,HR.out,TE.refl _ _ _ _⟩
 case round=>
  obtain⟨i,M,hi,rfl,HM⟩:=hrel;obtain⟨j1,hj1,hj1n⟩:∃j1:Nat,2*(i:Int)+1=(j1:Int)/\2*i+1=j1:=⟨2*i+1,by omega,rfl⟩;by_cases hz:n<=j1
  ·have HT:Hid (D.2=i/\RowE wr B r ro vo c D.1/\TE r ro vo w wr):=by
    have e:D=(M,i):=by rw[<- HM.out.2.1,downFE_end (by omega)]
    exact⟨by rw[e],by rw[e];exact HM.out.2.2.1,HM.out.2.2.2⟩
   have q1:decide (n<=j1)=true:=by simpa using hz
   clear HM
   go_wp2_with fail
   go_ret;exact⟨by rw[HT.out.1];rfl,HT.out.2⟩
  ·have q1:decide (n<=j1)=false:=by simpa using hz
   have q2:decide ((j1:Int)<0)=false:=by simp
   obtain⟨j2,hj2,hj2n⟩:∃j2:Nat,(j1:Int)+1=(j2:Int)/\j1+1=j2:=⟨j1+1,by omega,rfl⟩;have HJ1:=Hd hj1n;have HJ2:=Hd hj2n;have hij1:i<j1:=by omega
   have hj12:j1<j2:=by omega
   have hj1N:j1<N:=by omega
   have key:(decide (j2<n)=false/\Hid (childFE M i n=j1))∨(j2<n/\decide (j2<n)=true/\∃o:Bool,Hid (childFE M i n=if o then j2 else j1)/\Hid (∀ wx,RowE wx B r ro vo c M->Calls Tryz.prog 202 #[.slice vo N c,.int .i64 j2,.int .i64 j1] wx fun e w'=>e=.returned (.bool o)/\Below wx.heap.size wx w')):=by
    by_cases e:j2<n
    ·refine .inr ⟨e,by simpa using e,lessE (prG M j2) (prG M j1),?_,fun wx hx=>rlessE_any hx HM.out.1 (by omega) (by omega)⟩
     show _=_;unfold childFE;rw[show 2*i+2=j2 by omega,hj1n];by_cases e2:lessE (prG M j2) (prG M j1)=true
     ·rw[if_pos ⟨e,e2⟩,if_pos e2]
     ·rw[if_neg (fun h=>e2 h.2),if_neg e2]
    ·refine .inl ⟨by simpa using e,?_⟩
     show _=_;unfold childFE;rw[if_neg (by omega),hj1n]
   clear hj1n hj2n;rcases key with⟨q3,HC⟩|⟨hj2N,q3,o,HC,HLL⟩
   ·
    have HL:=Hd (rlessE_any HM.out.2.2.1 HM.out.1 (i:=j1) (k:=i) (by omega) (by omega));have mth3:=methE_less (HM.out.2.2.1.head HM.out.1);obtain⟨p,hp⟩:∃o,lessE (prG M j1) (prG M i)=o:=⟨_,rfl⟩;rw[hp]at HL;have HP:=Hd hp;clear hp
    go_wp2_with fail
    refine HL.out.mono ?_;rintro e w1 ⟨rfl,hb⟩;have HR1:Hid (RowE w1 B r ro vo c M/\TE r ro vo w w1):=⟨HM.out.2.2.1.below hb,HM.out.2.2.2.below HM.out.2.2.1.lt hb⟩;clear hb;cases p with
    |false=>
     have HT:Hid (D.2=i/\RowE w1 B r ro vo c D.1/\TE r ro vo w w1):=by
      have e:D=(M,i):=by rw[<- HM.out.2.1,downFE_stop HC.out HP.out]
      exact⟨by rw[e],by rw[e];exact HR1.out.1,HR1.out.2⟩
     clear HM HR1
     go_wp2_with fail
     go_ret;exact⟨by rw[HT.out.1];rfl,HT.out.2⟩
    |true=>
     have HS:=Hd (rswapE_any HR1.out.1 HM.out.1 (i:=i) (k:=j1) (by omega) (by omega));have mth4:=methE_swap (HR1.out.1.head HM.out.1)
     go_wp2_with fail
     refine HS.out.mono ?_;rintro e w2 ⟨rfl,hr2,ht2⟩;have HN2:Hid ((swapE M i j1).length=N/\downFE (swapE M i j1) j1 n=D/\RowE w2 B r ro vo c (swapE M i j1)/\TE r ro vo w w2):=
      ⟨by rw[swapE_length];exact HM.out.1,by rw[<- HM.out.2.1,downFE_step (by rw[HJ1.out];exact hz) HC.out HP.out],hr2,HR1.out.2.trans ht2 fun _ _ h=>h⟩
     clear hr2 ht2 HS HM HR1 hj1 hj2;go_wp2
     go_roundw
     case rel=>exact⟨j1,swapE M i j1,hj1N,rfl,HN2.out⟩
     case measure=>simp[intOf];omega
   ·cases o
    all_goals
     simp only[Bool.false_eq_true,if_true,if_false]at HC;have mth5:=methE_less (HM.out.2.2.1.head HM.out.1)
     go_wp2_with fail
     refine(HLL.out _ HM.out.2.2.1).mono ?_;rintro e w0 ⟨rfl,hb⟩;have HR0:Hid (RowE w0 B r ro vo c M/\TE r ro vo w w0):=⟨HM.out.2.2.1.below hb,HM.out.2.2.2.below HM.out.2.2.1.lt hb⟩;clear hb HLL
    ·have HL:=Hd (rlessE_any HR0.out.1 HM.out.1 (i:=j1) (k:=i) (by omega) (by omega))
     have mth6:=methE_less (HR0.out.1.head HM.out.1);obtain⟨p,hp⟩:∃o,lessE (prG M j1) (prG M i)=o:=⟨_,rfl⟩;rw[hp]at HL;have HP:=Hd hp;clear hp
     go_wp2_with fail
     refine HL.out.mono ?_;rintro e w1 ⟨rfl,hb⟩;have HR1:Hid (RowE w1 B r ro vo c M/\TE r ro vo w w1):=⟨HR0.out.1.below hb,HR0.out.2.below HR0.out.1.lt hb⟩;clear hb;cases p with
     |false=>
      have HT:Hid (D.2=i/\RowE w1 B r ro vo c D.1/\TE r ro vo w w1):=by
       have e:D=(M,i):=by rw[<- HM.out.2.1,downFE_stop HC.out HP.out]
       exact⟨by rw[e],by rw[e];exact HR1.out.1,HR1.out.2⟩
      clear HM HR1
      go_wp2_with fail
      go_ret;exact⟨by rw[HT.out.1];rfl,HT.out.2⟩
     |true=>
      have HS:=Hd (rswapE_any HR1.out.1 HM.out.1 (i:=i) (k:=j1) (by omega) (by omega));have mth7:=methE_swap (HR1.out.1.head HM.out.1)
      go_wp2_with fail
      refine HS.out.mono ?_;rintro e w2 ⟨rfl,hr2,ht2⟩;have HN2:Hid ((swapE M i j1).length=N/\downFE (swapE M i j1) j1 n=D/\RowE w2 B r ro vo c (swapE M i j1)/\TE r ro vo w w2):=
       ⟨by rw[swapE_length];exact HM.out.1,by rw[<- HM.out.2.1,downFE_step (by rw[HJ1.out];exact hz) HC.out HP.out],hr2,HR1.out.2.trans ht2 fun _ _ h=>h⟩
      clear hr2 ht2 HS HM HR1 HR0 hj1 hj2;go_wp2
      go_roundw
      case rel=>exact⟨j1,swapE M i j1,hj1N,rfl,HN2.out⟩
      case measure=>simp[intOf];omega
    ·have HL:=Hd (rlessE_any HR0.out.1 HM.out.1 (i:=j2) (k:=i) (by omega) (by omega))
     have mth8:=methE_less (HR0.out.1.head HM.out.1);obtain⟨p,hp⟩:∃o,lessE (prG M j2) (prG M i)=o:=⟨_,rfl⟩;rw[hp]at HL;have HP:=Hd hp;clear hp
     go_wp2_with fail
     refine HL.out.mono ?_;rintro e w1 ⟨rfl,hb⟩;have HR1:Hid (RowE w1 B r ro vo c M/\TE r ro vo w w1):=⟨HR0.out.1.below hb,HR0.out.2.below HR0.out.1.lt hb⟩;clear hb;cases p with
     |false=>
      have HT:Hid (D.2=i/\RowE w1 B r ro vo c D.1/\TE r ro vo w w1):=by
       have e:D=(M,i):=by rw[<- HM.out.2.1,downFE_stop HC.out HP.out]
       exact⟨by rw[e],by rw[e];exact HR1.out.1,HR1.out.2⟩
      clear HM HR1
      go_wp2_with fail
      go_ret;exact⟨by rw[HT.out.1];rfl,HT.out.2⟩
     |true=>
      have HS:=Hd (rswapE_any HR1.out.1 HM.out.1 (i:=i) (k:=j2) (by omega) (by omega));have mth9:=methE_swap (HR1.out.1.head HM.out.1);have hj2N2:j2<N:=by omega
      go_wp2_with fail
      refine HS.out.mono ?_;rintro e w2 ⟨rfl,hr2,ht2⟩;have HN2:Hid ((swapE M i j2).length=N/\downFE (swapE M i j2) j2 n=D/\RowE w2 B r ro vo c (swapE M i j2)/\TE r ro vo w w2):=
       ⟨by rw[swapE_length];exact HM.out.1,by rw[<- HM.out.2.1,downFE_step (by rw[HJ1.out];exact hz) HC.out HP.out],hr2,HR1.out.2.trans ht2 fun _ _ h=>h⟩
      clear hr2 ht2 HS HM HR1 HR0 hj1 hj2;go_wp2
      go_roundw
      case rel=>exact⟨j2,swapE M i j2,hj2N2,rfl,HN2.out⟩
      case measure=>simp[intOf];omega
theorem set_permE{L:List E2}{i k:Nat}(hi:i<L.length)(hk:k<L.length):(swapE L i k).Perm L:=by
 refine List.perm_iff_count.2 fun a=>?_
 have e1:prG L i=L[i]:=by unfold prG;rw[List.getD_eq_getElem?_getD,List.getElem?_eq_getElem hi,Option.getD_some]
 have e2:prG L k=L[k]:=by unfold prG;rw[List.getD_eq_getElem?_getD,List.getElem?_eq_getElem hk,Option.getD_some]
 unfold swapE;rw[List.count_set (by simpa using hk),List.count_set hi,e1,e2];have p1:(if L[i]==a then 1 else 0)<=L.count a:=by
  split
  ·rename_i h
   have h:=eq_of_beq h;rw[<- h];exact List.count_pos_iff.2 (List.getElem_mem hi)
  ·omega
 rw[List.getElem_set];by_cases e:i=k
 ·subst e
  rw[if_pos rfl];omega
 ·rw[if_neg e]
  by_cases h1:(L[i]==a)=true <;> by_cases h2:(L[k]==a)=true <;> simp only[h1,h2,if_true,if_false,Bool.false_eq_true]at p1 ⊢ <;> omega
theorem up_permE:∀(k:Nat) (L:List E2),k<L.length->(upFE L k).Perm L:=by
 intro k
 induction k using Nat.strongRecOn with
 |_ k ih=>
  intro L hk;by_cases e:k=0
  ·subst e;rw[upFE_zero]
  ·cases hl:lessE (prG L k) (prG L ((k-1)/2))with
   |false=>rw[upFE_stop rfl hl]
   |true=>
    rw[upFE_step (by omega) rfl hl];exact(ih _ (by omega) _ (by rw[swapE_length];omega)).trans (set_permE (by omega) hk)
theorem down_permE{n:Nat}:∀(m i:Nat) (L:List E2),n-i<=m->n<=L.length->(downFE L i n).1.Perm L/\∀j,n<=j->prG (downFE L i n).1 j=prG L j:=by
 intro m
 induction m with
 |zero=>intro i L hm hn;rw[downFE_end (by omega)];exact⟨List.Perm.refl _,fun _ _=>rfl⟩
 |succ m ih=>
  intro i L hm hn;by_cases he:n<=2*i+1
  ·rw[downFE_end he];exact⟨List.Perm.refl _,fun _ _=>rfl⟩
  ·have hic:=childFE_gt L i n
   have hcn:=childFE_lt (L:=L) (i:=i) (n:=n) (by omega);cases hl:lessE (prG L (childFE L i n)) (prG L i)with
   |false=>rw[downFE_stop rfl hl];exact⟨List.Perm.refl _,fun _ _=>rfl⟩
   |true=>
    rw[downFE_step he rfl hl];obtain⟨h1,h2⟩:=ih (childFE L i n) (swapE L i (childFE L i n)) (by omega) (by rw[swapE_length];exact hn);refine⟨h1.trans (set_permE (by omega) (by omega)),fun j hj=>?_⟩;rw[h2 j hj,prG_swap (by omega) (by omega),if_neg (by omega),if_neg (by omega)]
end
end Go.Proofs.YtpkoapmpknbgoaaGreat
